/- Chapter 7 by value: what options, headers and a datagram of version 6 are written as. -/
import Derived.Test.YthhgbpmihhljdaaDoorBah
import Derived.Test.YthhgbpmihhljdaaDoorBaf
namespace Go.Eng
open Go Go.RowKit
def AllZ (l : List Int) : Prop := ∀ x ∈ l, x = 0
instance (l : List Int) : Decidable (AllZ l) := by unfold AllZ; infer_instance
/-- n bytes of padding. -/
def padF : Nat → Nat → List Int
  | 0, _ => []
  | f + 1, n => if n = 0 then [] else if n = 1 then [0] else 1 :: ((min n 257 - 2 : Nat) : Int) :: (List.replicate (min n 257 - 2) 0 ++ padF f (n - min n 257))
def padS (n : Nat) : List Int := padF n n
theorem padF_len : ∀ f n, n ≤ f → (padF f n).length = n
  | 0, n, h => by have : n = 0 := by omega
                  subst this; rfl
  | f + 1, n, h => by
    unfold padF
    split
    · simp; omega
    · split
      · simp; omega
      · simp only [List.length_cons, List.length_append, List.length_replicate]
        rw [padF_len f _ (by omega)]; omega
theorem padF_fuel : ∀ f g n, n ≤ f → n ≤ g → padF f n = padF g n
  | 0, 0, _, _, _ => rfl
  | 0, g + 1, n, h, _ => by have : n = 0 := by omega
                            subst this; simp [padF]
  | f + 1, 0, n, _, h => by have : n = 0 := by omega
                            subst this; simp [padF]
  | f + 1, g + 1, n, h, k => by
    unfold padF
    split
    · rfl
    · split
      · rfl
      · rw [padF_fuel f g _ (by omega) (by omega)]
theorem padS_len (n : Nat) : (padS n).length = n := padF_len n n (Nat.le_refl _)
theorem padS_zero : padS 0 = [] := rfl
theorem padS_one : padS 1 = [0] := rfl
theorem padS_step {n : Nat} (h : 1 < n) : padS n = 1 :: ((min n 257 - 2 : Nat) : Int) :: (List.replicate (min n 257 - 2) 0 ++ padS (n - min n 257)) := by
  obtain ⟨m, rfl⟩ : ∃ m, n = m + 1 := ⟨n - 1, by omega⟩
  show padF (m + 1) (m + 1) = _
  unfold padF
  rw [if_neg (by omega), if_neg (by omega), padF_fuel m (m + 1 - min (m + 1) 257) _ (by omega) (Nat.le_refl _)]
  rfl
theorem bts_zeros (n : Nat) : Bts (List.replicate n 0) := fun x hx => by rw [(List.mem_replicate.1 hx).2]; omega
def optBytes (prev0 : Bool) (o : OptD) : Option (List Int) :=
  if o.kind = 0 then (if o.data = [] ∨ prev0 = true ∨ ¬ AllZ o.data then none else some (padS o.data.length))
  else if o.kind < 2 ∨ 255 < o.kind ∨ 255 < o.data.length then none else some (o.kind :: (o.data.length : Int) :: o.data)
def prevZ (l : List OptD) (i : Nat) : Bool := match i with
  | 0 => false
  | j + 1 => match l[j]? with
    | some o => decide (o.kind = 0)
    | none => false
def optF (l : List OptD) : Nat → Option (List Int)
  | 0 => some []
  | i + 1 => match optF l i, l[i]? with
    | some out, some o => match optBytes (prevZ l i) o with
      | some b => some (out ++ b)
      | none => none
    | _, _ => none
def putOptsS (l : List OptD) : List Int × Int := match optF l l.length with
  | some out => if out.length % 8 ≠ 6 ∨ 2046 < out.length then ([], 75) else (out, 0)
  | none => ([], 75)
theorem optF_none {l : List OptD} {i : Nat} (h : optF l i = none) : ∀ j, i ≤ j → optF l j = none := by
  intro j hij
  obtain ⟨d, rfl⟩ : ∃ d, j = i + d := ⟨j - i, by omega⟩
  clear hij
  induction d with
  | zero => exact h
  | succ d ih =>
    show optF l ((i + d) + 1) = none
    unfold optF; rw [ih]
theorem optF_long {l : List OptD} {i : Nat} {out : List Int} (h : optF l i = some out) : ∀ d, optF l (i + d) = none ∨ ∃ r, optF l (i + d) = some (out ++ r) := by
  intro d
  induction d with
  | zero => exact .inr ⟨[], by simpa using h⟩
  | succ d ih =>
    show optF l ((i + d) + 1) = none ∨ ∃ r, optF l ((i + d) + 1) = some (out ++ r)
    rcases ih with e | ⟨r, e⟩
    · exact .inl (optF_none e _ (by omega))
    · unfold optF
      rw [e]
      cases l[i + d]? with
      | none => exact .inl rfl
      | some o =>
        simp only
        cases optBytes (prevZ l (i + d)) o with
        | none => exact .inl rfl
        | some b => exact .inr ⟨r ++ b, by simp⟩
theorem putOptsS_none {l : List OptD} {i : Nat} (h : optF l i = none) (hi : i ≤ l.length) : putOptsS l = ([], 75) := by
  unfold putOptsS; rw [optF_none h _ hi]
theorem putOptsS_long {l : List OptD} {i : Nat} {out : List Int} (h : optF l i = some out) (hi : i ≤ l.length) (hl : 2046 < out.length) : putOptsS l = ([], 75) := by
  obtain ⟨d, hd⟩ : ∃ d, l.length = i + d := ⟨l.length - i, by omega⟩
  unfold putOptsS
  rw [hd]
  rcases optF_long h d with e | ⟨r, e⟩
  · rw [e]
  · rw [e]; simp only; rw [if_pos (.inr (by rw [List.length_append]; omega))]
theorem optF_step {l : List OptD} {i : Nat} {out : List Int} {o : OptD} (h : optF l i = some out) (ho : l[i]? = some o) : optF l (i + 1) = match optBytes (prevZ l i) o with
      | some b => some (out ++ b)
      | none => none := by
  show (match optF l i, l[i]? with
    | some out, some o => match optBytes (prevZ l i) o with
      | some b => some (out ++ b)
      | none => none
    | _, _ => none) = _
  rw [h, ho]
theorem putOptsS_len (l : List OptD) : (putOptsS l).1.length ≤ 2046 := by
  unfold putOptsS
  split
  · split
    · simp
    · simp only; omega
  · simp
def bodyS (x : ExtD) : List Int × Int :=
  if x.kind = 43 then (if x.opts ≠ [] ∨ x.data.length % 8 ≠ 6 ∨ 2046 < x.data.length then ([], 72) else (x.data, 0))
  else if x.kind = 0 ∨ x.kind = 60 then (if x.data ≠ [] then ([], 72) else putOptsS x.opts) else ([], 72)
def thenK (l : List ExtD) (next : Int) (i : Nat) : Int := match l[i + 1]? with
  | some y => y.kind
  | none => next
def hdrF (l : List ExtD) (next : Int) (top : Bool) : Nat → List Int × Int
  | 0 => ([], 0)
  | i + 1 => if (hdrF l next top i).2 ≠ 0 then hdrF l next top i else match l[i]? with
    | none => hdrF l next top i
    | some x => if x.kind = 0 ∧ ¬ (top = true ∧ i = 0) then ([], 73) else if (bodyS x).2 ≠ 0 then ([], (bodyS x).2)
      else ((hdrF l next top i).1 ++ (thenK l next i % 256 :: (((bodyS x).1.length / 8 : Nat) : Int) :: (bodyS x).1), 0)
def headersS (l : List ExtD) (next : Int) (top : Bool) : List Int × Int := if 8 < l.length then ([], 74) else hdrF l next top l.length
theorem bodyS_len (x : ExtD) : (bodyS x).1.length ≤ 2046 := by
  unfold bodyS
  split
  · split
    · simp
    · simp only; omega
  · split
    · split
      · simp
      · exact putOptsS_len _
    · simp
def ExtD.ok (x : ExtD) : Prop := Bts x.data ∧ ∀ o ∈ x.opts, Bts o.data
theorem hdrF_stop {l : List ExtD} {next : Int} {top : Bool} {i : Nat} (h : (hdrF l next top i).2 ≠ 0) : ∀ j, i ≤ j → hdrF l next top j = hdrF l next top i := by
  intro j hij
  obtain ⟨d, rfl⟩ : ∃ d, j = i + d := ⟨j - i, by omega⟩
  clear hij
  induction d with
  | zero => rfl
  | succ d ih =>
    have e : hdrF l next top ((i + d) + 1) = hdrF l next top (i + d) := by
      conv => lhs; unfold hdrF
      rw [if_pos (by rw [ih]; exact h)]
    exact e.trans ih
theorem hdrF_step {l : List ExtD} {next : Int} {top : Bool} {i : Nat} {x : ExtD} (h : (hdrF l next top i).2 = 0) (hx : l[i]? = some x) : hdrF l next top (i + 1) = if x.kind = 0 ∧ ¬ (top = true ∧ i = 0) then ([], 73) else if (bodyS x).2 ≠ 0 then ([], (bodyS x).2)
      else ((hdrF l next top i).1 ++ (thenK l next i % 256 :: (((bodyS x).1.length / 8 : Nat) : Int) :: (bodyS x).1), 0) := by
  show (if (hdrF l next top i).2 ≠ 0 then hdrF l next top i else match l[i]? with
    | none => hdrF l next top i
    | some x => if x.kind = 0 ∧ ¬ (top = true ∧ i = 0) then ([], 73) else if (bodyS x).2 ≠ 0 then ([], (bodyS x).2)
      else ((hdrF l next top i).1 ++ (thenK l next i % 256 :: (((bodyS x).1.length / 8 : Nat) : Int) :: (bodyS x).1), 0)) = _
  rw [if_neg (by omega), hx]
theorem hdrF_stopped {l : List ExtD} {next : Int} {top : Bool} {i : Nat} {r : List Int × Int} (h8 : l.length ≤ 8) (h : hdrF l next top i = r) (hr : r.2 ≠ 0) (hi : i ≤ l.length) : headersS l next top = r := by
  unfold headersS
  rw [if_neg (by omega), hdrF_stop (by rw [h]; exact hr) _ hi, h]
theorem hdrF_len {l : List ExtD} {next : Int} {top : Bool} : ∀ i, (hdrF l next top i).1.length ≤ 2048 * i
  | 0 => Nat.le_refl _
  | i + 1 => by
    have ih := hdrF_len (l := l) (next := next) (top := top) i
    unfold hdrF
    split
    · omega
    · split
      · omega
      · rename_i x hx
        have := bodyS_len x
        split
        · simp
        · split
          · simp
          · simp only [List.length_append, List.length_cons]; omega
theorem headersS_len (l : List ExtD) (next : Int) (top : Bool) : (headersS l next top).1.length ≤ 16384 := by
  unfold headersS
  split
  · simp
  · have := hdrF_len (l := l) (next := next) (top := top) l.length; omega
def fitsS (f : FragV) (n : Nat) : Bool := decide (¬ ((f.more = true ∧ (n = 0 ∨ n % 8 ≠ 0)) ∨ (0 < f.off ∧ n = 0)) ∧ f.off + n ≤ 65535)
def upperS (k : Int) : Bool := decide (k ≠ 0 ∧ k ≠ 43 ∧ k ≠ 44 ∧ k ≠ 60)
def fragE (h : Ip6D) : Int :=
  if h.frag.has = true then (if h.frag.id < 0 ∨ 4294967295 < h.frag.id ∨ h.frag.off < 0 ∨ h.frag.off % 8 ≠ 0 ∨ 65528 < h.frag.off ∨ fitsS h.frag h.data.length = false then 76 else 0)
  else if h.frag.more = true ∨ h.frag.id ≠ 0 ∨ h.frag.off ≠ 0 then 76 else if upperS h.next = true then 0 else 72
def b2i (b : Bool) : Int := if b = true then 1 else 0
def four (n : Int) : List Int := [n / 16777216, n / 65536 % 256, n / 256 % 256, n % 256]
def fragB (h : Ip6D) : List Int :=
  if h.frag.has = true then [h.next, 0, (h.frag.off + b2i h.frag.more) / 256, (h.frag.off + b2i h.frag.more) % 256] ++ four h.frag.id else []
def behindK (h : Ip6D) : Int := if h.frag.has = true then 44 else h.next
def firstK (h : Ip6D) : Int := match h.exts with
  | x :: _ => x.kind
  | [] => behindK h
def fieldBad (h : Ip6D) : Prop := h.cls < 0 ∨ 255 < h.cls ∨ h.flow < 0 ∨ 1048575 < h.flow ∨ h.hop < 0 ∨ 255 < h.hop ∨ h.src.v ≠ 6 ∨ h.dst.v ≠ 6 ∨ h.next < 0 ∨ 255 < h.next
instance (h : Ip6D) : Decidable (fieldBad h) := by unfold fieldBad; infer_instance
def head6 (h : Ip6D) (n : Nat) : List Int := [96 + h.cls / 16, h.cls % 16 * 16 + h.flow / 65536, h.flow / 256 % 256, h.flow % 256, (n : Int) / 256, (n : Int) % 256, firstK h, h.hop]
def bodyB (h : Ip6D) : List Int := (headersS h.exts (behindK h) true).1 ++ (fragB h ++ h.data)
def ser6S (h : Ip6D) : List Int × Int :=
  if fieldBad h then ([], 78) else if (headersS h.exts (behindK h) true).2 ≠ 0 then ([], (headersS h.exts (behindK h) true).2)
  else if fragE h ≠ 0 then ([], fragE h) else if 65535 < 40 + (bodyB h).length then ([], 2)
  else (head6 h (bodyB h).length ++ (h.src.bytes ++ (h.dst.bytes ++ bodyB h)), 0)
theorem ser6S_cases (h : Ip6D) : (ser6S h).2 ≠ 0 ∧ (ser6S h).1 = [] ∨ (ser6S h).2 = 0 ∧ ¬ fieldBad h ∧ (headersS h.exts (behindK h) true).2 = 0 ∧ fragE h = 0 ∧ 40 + (bodyB h).length ≤ 65535 ∧ (ser6S h).1 = head6 h (bodyB h).length ++ (h.src.bytes ++ (h.dst.bytes ++ bodyB h)) := by
  unfold ser6S
  split
  · exact .inl ⟨by decide, rfl⟩
  · rename_i h1
    split
    · rename_i h2; exact .inl ⟨h2, rfl⟩
    · rename_i h2
      split
      · rename_i h3; exact .inl ⟨h3, rfl⟩
      · rename_i h3
        split
        · exact .inl ⟨by decide, rfl⟩
        · rename_i h4; exact .inr ⟨rfl, h1, by omega, by omega, by omega, rfl⟩
end Go.Eng
/- Chapter 7 by value: what bytes are read as. -/
namespace Go.Eng
open Go Go.RowKit
/-- An option that was read: its kind, where its data lie, how many they are; kind 0: a run of padding. -/
structure OP where
  kind : Int
  p : Nat
  n : Nat
def bpart (b : List Int) (p n : Nat) : List Int := (b.drop p).take n
theorem bpart_len {b : List Int} {p n : Nat} (h : p + n ≤ b.length) : (bpart b p n).length = n := by
  unfold bpart; rw [List.length_take, List.length_drop]; omega
def OP.d (b : List Int) (o : OP) : OptD := if o.kind = 0 then ⟨0, List.replicate o.n 0⟩ else ⟨o.kind, bpart b o.p o.n⟩
def flushS (run : Nat) : List OP := if run = 0 then [] else [⟨0, 0, run⟩]
/-- What the bytes from p on hold, so many bytes of padding being behind. -/
def optsS (b : List Int) (p run : Nat) : Option (List OP) :=
  if _h : b.length ≤ p then some (flushS run)
  else if b.getD p 0 = 0 then optsS b (p + 1) (run + 1)
  else if b.length < p + 2 + (b.getD (p + 1) 0).toNat then none
  else if b.getD p 0 = 1 then optsS b (p + 2 + (b.getD (p + 1) 0).toNat) (run + 2 + (b.getD (p + 1) 0).toNat)
  else (optsS b (p + 2 + (b.getD (p + 1) 0).toNat) 0).map fun l => flushS run ++ ⟨b.getD p 0, p + 2, (b.getD (p + 1) 0).toNat⟩ :: l
termination_by b.length - p
theorem optsS_end {b : List Int} {p run : Nat} (h : b.length ≤ p) : optsS b p run = some (flushS run) := by
  rw [optsS, dif_pos h]
theorem optsS_zero {b : List Int} {p run : Nat} (h : p < b.length) (h0 : b.getD p 0 = 0) : optsS b p run = optsS b (p + 1) (run + 1) := by
  rw [optsS, dif_neg (by omega), if_pos h0]
theorem optsS_none {b : List Int} {p run : Nat} (h : p < b.length) (h0 : b.getD p 0 ≠ 0) (h1 : b.length < p + 2 + (b.getD (p + 1) 0).toNat) : optsS b p run = none := by
  rw [optsS, dif_neg (by omega), if_neg h0, if_pos h1]
theorem optsS_pad {b : List Int} {p run : Nat} (h0 : b.getD p 0 = 1) (h1 : p + 2 + (b.getD (p + 1) 0).toNat ≤ b.length) : optsS b p run = optsS b (p + 2 + (b.getD (p + 1) 0).toNat) (run + 2 + (b.getD (p + 1) 0).toNat) := by
  rw [optsS, dif_neg (by omega), if_neg (by omega), if_neg (by omega), if_pos h0]
theorem optsS_opt {b : List Int} {p run : Nat} (h0 : b.getD p 0 ≠ 0) (h1 : b.getD p 0 ≠ 1) (h2 : p + 2 + (b.getD (p + 1) 0).toNat ≤ b.length) :
    optsS b p run = (optsS b (p + 2 + (b.getD (p + 1) 0).toNat) 0).map fun l => flushS run ++ ⟨b.getD p 0, p + 2, (b.getD (p + 1) 0).toNat⟩ :: l := by
  rw [optsS, dif_neg (by omega), if_neg h0, if_neg (by omega), if_neg h1]
theorem flushS_d (b : List Int) (run : Nat) : (flushS run).map (OP.d b) = if run = 0 then [] else [⟨0, List.replicate run 0⟩] := by
  unfold flushS
  split
  · rfl
  · simp [OP.d]
/-- What is read lies within. -/
def OP.inside (b : List Int) (o : OP) : Prop := (o.kind = 0 ∧ 0 < o.n ∧ o.n ≤ b.length) ∨ (2 ≤ o.kind ∧ o.kind ≤ 255 ∧ o.p + o.n ≤ b.length ∧ o.n ≤ 255)
theorem getD_byte {b : List Int} (hB : Bts b) (p : Nat) : 0 ≤ b.getD p 0 ∧ b.getD p 0 ≤ 255 := by
  rw [List.getD_eq_getElem?_getD]
  rcases Nat.lt_or_ge p b.length with h | h
  · rw [List.getElem?_eq_getElem h]; have := hB _ (List.getElem_mem h); simp only [Option.getD_some]; omega
  · rw [List.getElem?_eq_none h]; simp
theorem flushS_inside {b : List Int} {run : Nat} (h : run ≤ b.length) : ∀ o ∈ flushS run, o.inside b := by
  unfold flushS
  split
  · intro o ho; cases ho
  · intro o ho; simp at ho; subst ho; exact .inl ⟨rfl, by show 0 < run; omega, h⟩
theorem optsS_inside {b : List Int} (hB : Bts b) : ∀ (k p run : Nat) (l : List OP), b.length - p ≤ k → run ≤ p → p ≤ b.length → optsS b p run = some l → ∀ o ∈ l, o.inside b := by
  intro k
  induction k with
  | zero =>
    intro p run l hk hr hp h
    rw [optsS_end (by omega)] at h
    injection h with h; subst h
    exact flushS_inside (by omega)
  | succ k ih =>
    intro p run l hk hr hp h
    rcases Nat.lt_or_ge p b.length with hlt | hge
    · have b0 := getD_byte hB p
      have b1 := getD_byte hB (p + 1)
      by_cases h0 : b.getD p 0 = 0
      · rw [optsS_zero hlt h0] at h
        exact ih _ _ _ (by omega) (by omega) (by omega) h
      · rcases Nat.lt_or_ge b.length (p + 2 + (b.getD (p + 1) 0).toNat) with h2 | h2
        · rw [optsS_none hlt h0 h2] at h; cases h
        · by_cases h1 : b.getD p 0 = 1
          · rw [optsS_pad h1 h2] at h
            exact ih _ _ _ (by omega) (by omega) (by omega) h
          · rw [optsS_opt h0 h1 h2] at h
            cases hr2 : optsS b (p + 2 + (b.getD (p + 1) 0).toNat) 0 with
            | none => rw [hr2] at h; cases h
            | some m =>
              rw [hr2] at h
              injection h with h; subst h
              intro o ho
              rcases List.mem_append.1 ho with ho | ho
              · exact flushS_inside (by omega) o ho
              · rcases List.mem_cons.1 ho with rfl | ho
                · exact .inr ⟨by show 2 ≤ b.getD p 0; omega, b0.2, h2, by show (b.getD (p + 1) 0).toNat ≤ 255; omega⟩
                · exact ih _ _ _ (by omega) (by omega) (by omega) hr2 o ho
    · rw [optsS_end hge] at h
      injection h with h; subst h
      exact flushS_inside (by omega)
/-! ### Headers -/
/-- A header that was read: its kind, its options, where its bytes lie, how many they are. -/
structure EP where
  kind : Int
  opts : List OP
  p : Nat
  n : Nat
def EP.d (b : List Int) (x : EP) : ExtD := ⟨x.kind, x.opts.map (OP.d (bpart b x.p x.n)), if x.kind = 43 then bpart b x.p x.n else []⟩
def isH (k : Int) : Prop := k = 0 ∨ k = 43 ∨ k = 60
instance (k : Int) : Decidable (isH k) := by unfold isH; infer_instance
def inS (k : Int) (b : List Int) (p n : Nat) : Option (List OP) := if k = 43 then some [] else optsS (bpart b p n) 0 0
/-- How many bytes a header has behind its first two. -/
def lenH (b : List Int) (p : Nat) : Nat := 8 * (b.getD (p + 1) 0).toNat + 6
def hdrsS (b : List Int) (top : Bool) (k : Int) (p i : Nat) : Except Int (List EP × Int × Nat) :=
  if isH k then
    if k = 0 ∧ (top = false ∨ 0 < i) then .error 73
    else if _h : 8 ≤ i then .error 74
    else if b.length < p + 8 ∨ b.length < p + 2 + lenH b p then .error 72
    else match inS k b (p + 2) (lenH b p) with
      | none => .error 75
      | some os => (hdrsS b top (b.getD p 0) (p + 2 + lenH b p) (i + 1)).map fun r => (⟨k, os, p + 2, lenH b p⟩ :: r.1, r.2)
  else .ok ([], k, p)
termination_by 8 - i
section
variable {b : List Int} {top : Bool} {k : Int} {p i : Nat}
theorem hdrsS_end (h : ¬ isH k) : hdrsS b top k p i = .ok ([], k, p) := by rw [hdrsS, if_neg h]
theorem hdrsS_first (h : isH k) (h1 : k = 0 ∧ (top = false ∨ 0 < i)) : hdrsS b top k p i = .error 73 := by rw [hdrsS, if_pos h, if_pos h1]
theorem hdrsS_many (h : isH k) (h1 : ¬ (k = 0 ∧ (top = false ∨ 0 < i))) (h2 : 8 ≤ i) : hdrsS b top k p i = .error 74 := by rw [hdrsS, if_pos h, if_neg h1, dif_pos h2]
theorem hdrsS_short (h : isH k) (h1 : ¬ (k = 0 ∧ (top = false ∨ 0 < i))) (h2 : i < 8) (h3 : b.length < p + 8 ∨ b.length < p + 2 + lenH b p) : hdrsS b top k p i = .error 72 := by
  rw [hdrsS, if_pos h, if_neg h1, dif_neg (by omega), if_pos h3]
theorem hdrsS_opts (h : isH k) (h1 : ¬ (k = 0 ∧ (top = false ∨ 0 < i))) (h2 : i < 8) (h3 : p + 2 + lenH b p ≤ b.length) (h4 : inS k b (p + 2) (lenH b p) = none) : hdrsS b top k p i = .error 75 := by
  have : p + 8 ≤ p + 2 + lenH b p := by unfold lenH; omega
  rw [hdrsS, if_pos h, if_neg h1, dif_neg (by omega), if_neg (by omega), h4]
theorem hdrsS_step (h : isH k) (h1 : ¬ (k = 0 ∧ (top = false ∨ 0 < i))) (h2 : i < 8) (h3 : p + 2 + lenH b p ≤ b.length) {os : List OP} (h4 : inS k b (p + 2) (lenH b p) = some os) :
    hdrsS b top k p i = (hdrsS b top (b.getD p 0) (p + 2 + lenH b p) (i + 1)).map fun r => (⟨k, os, p + 2, lenH b p⟩ :: r.1, r.2) := by
  have : p + 8 ≤ p + 2 + lenH b p := by unfold lenH; omega
  rw [hdrsS, if_pos h, if_neg h1, dif_neg (by omega), if_neg (by omega), h4]
end
/-- Laid behind others that were read. -/
def behind (l : List EP) (r : Except Int (List EP × Int × Nat)) : Except Int (List EP × Int × Nat) := r.map fun r => (l ++ r.1, r.2)
theorem behind_nil (r : Except Int (List EP × Int × Nat)) : behind [] r = r := by
  cases r <;> rfl
theorem behind_map (l : List EP) (x : EP) (r : Except Int (List EP × Int × Nat)) : behind l (r.map fun r => (x :: r.1, r.2)) = behind (l ++ [x]) r := by
  cases r <;> simp [behind, Except.map]
def EP.inside (b : List Int) (x : EP) : Prop := isH x.kind ∧ x.p + x.n ≤ b.length ∧ x.n ≤ 2046 ∧ x.n % 8 = 6 ∧ inS x.kind b x.p x.n = some x.opts
theorem hdrsS_inside {b : List Int} (hB : Bts b) {top : Bool} : ∀ (m i : Nat) (k : Int) (p : Nat) (l : List EP) (k' : Int) (p' : Nat), 8 - i ≤ m → p ≤ b.length → hdrsS b top k p i = .ok (l, k', p') → (∀ x ∈ l, x.inside b) ∧ p' ≤ b.length ∧ p ≤ p' ∧ ¬ isH k' ∧ (l.length + i ≤ 8 ∨ l = []) ∧ (0 ≤ k ∧ k ≤ 255 → 0 ≤ k' ∧ k' ≤ 255) := by
  intro m
  induction m with
  | zero =>
    intro i k p l k' p' hm hp h
    by_cases hk : isH k
    · by_cases h1 : k = 0 ∧ (top = false ∨ 0 < i)
      · rw [hdrsS_first hk h1] at h; cases h
      · rw [hdrsS_many hk h1 (by omega)] at h; cases h
    · rw [hdrsS_end hk] at h
      cases h
      exact ⟨(fun x hx => by cases hx), hp, Nat.le_refl _, hk, .inr rfl, id⟩
  | succ m ih =>
    intro i k p l k' p' hm hp h
    by_cases hk : isH k
    · by_cases h1 : k = 0 ∧ (top = false ∨ 0 < i)
      · rw [hdrsS_first hk h1] at h; cases h
      · rcases Nat.lt_or_ge i 8 with h2 | h2
        · by_cases h3 : b.length < p + 8 ∨ b.length < p + 2 + lenH b p
          · rw [hdrsS_short hk h1 h2 h3] at h; cases h
          · cases h4 : inS k b (p + 2) (lenH b p) with
            | none => rw [hdrsS_opts hk h1 h2 (by omega) h4] at h; cases h
            | some os =>
              rw [hdrsS_step hk h1 h2 (by omega) h4] at h
              cases hr : hdrsS b top (b.getD p 0) (p + 2 + lenH b p) (i + 1) with
              | error e => rw [hr] at h; cases h
              | ok r =>
                obtain ⟨l2, k2, p2⟩ := r
                rw [hr] at h
                cases h
                obtain ⟨i1, i2, i3, i4, i5, i6⟩ := ih (i + 1) _ _ l2 k' p' (by omega) (by omega) hr
                refine ⟨fun x hx => ?_, i2, by omega, i4, .inl ?_, fun _ => i6 (getD_byte hB p)⟩
                · rcases List.mem_cons.1 hx with rfl | hx
                  · have := getD_byte hB (p + 1)
                    exact ⟨hk, by show p + 2 + lenH b p ≤ b.length; omega, by show lenH b p ≤ 2046; unfold lenH; omega, by show lenH b p % 8 = 6; unfold lenH; omega, h4⟩
                  · exact i1 x hx
                · rcases i5 with e | rfl
                  · simp only [List.length_cons]; omega
                  · simp only [List.length_cons, List.length_nil]; omega
        · rw [hdrsS_many hk h1 h2] at h; cases h
    · rw [hdrsS_end hk] at h
      cases h
      exact ⟨(fun x hx => by cases hx), hp, Nat.le_refl _, hk, .inr rfl, id⟩
def ipOf (v : Int) (l : List Int) : IPV := ⟨v, l.getD 0 0, l.getD 1 0, l.getD 2 0, l.getD 3 0, l.getD 4 0, l.getD 5 0, l.getD 6 0, l.getD 7 0, l.getD 8 0, l.getD 9 0, l.getD 10 0, l.getD 11 0, l.getD 12 0, l.getD 13 0, l.getD 14 0, l.getD 15 0⟩
/-- What is behind the forty bytes: headers, Frag, what is next, where the data are. -/
structure Tail6 where
  exts : List EP
  frag : FragV
  next : Int
  p : Nat
def fragAt (b : List Int) (p : Nat) : FragV := ⟨true, decide (b.getD (p + 3) 0 % 2 = 1), ((b.getD (p + 4) 0 * 256 + b.getD (p + 5) 0) * 256 + b.getD (p + 6) 0) * 256 + b.getD (p + 7) 0, (b.getD (p + 2) 0 * 32 + b.getD (p + 3) 0 / 8) * 8⟩
def walkS (b : List Int) (k : Int) (inner : Bool) : Except Int Tail6 :=
  match hdrsS b (!inner) k 0 0 with
  | .error e => .error e
  | .ok (l, k, p) => if k = 44 then
      (if inner = true then .error 76 else if b.length < p + 8 then .error 72
       else if fitsS (fragAt b p) (b.length - (p + 8)) = false then .error 76 else .ok ⟨l, fragAt b p, b.getD p 0, p + 8⟩)
    else .ok ⟨l, FragV.z, k, p⟩
def lenP (b : List Int) : Nat := (b.getD 4 0 * 256 + b.getD 5 0).toNat
def Tail6.d (b : List Int) (t : Tail6) : Ip6D :=
  ⟨b.getD 0 0 % 16 * 16 + b.getD 1 0 / 16, (b.getD 1 0 % 16 * 256 + b.getD 2 0) * 256 + b.getD 3 0, b.getD 7 0, ipOf 6 (bpart b 8 16), ipOf 6 (bpart b 24 16), t.exts.map (EP.d (bpart b 40 (lenP b))), t.frag, t.next, (bpart b 40 (lenP b)).drop t.p⟩
def chainS (k : Int) (b : List Int) : Except Int Tail6 := if k < 0 ∨ 255 < k then .error 1 else if 65535 < b.length then .error 2 else walkS b k true
def chained (k : Int) (b : List Int) : List ExtD × Int × List Int × Int := match chainS k b with
  | .error e => ([], 0, [], e)
  | .ok t => (t.exts.map (EP.d b), t.next, b.drop t.p, 0)
end Go.Eng
/- Plain laws of bit fields: no program in sight. -/
namespace Go.Eng
open Go
def psum (ws : List Int) : Int := ws.foldl (· + ·) 0
theorem psum_snoc (l : List Int) (a : Int) : psum (l ++ [a]) = psum l + a := by simp [psum]
theorem foldl_add (l : List Int) : ∀ a : Int, l.foldl (· + ·) a = a + l.foldl (· + ·) 0 := by
  induction l with
  | nil => intro a; simp
  | cons b l ih => intro a; simp only [List.foldl_cons]; rw [ih (a + b), ih (0 + b)]; omega
theorem psum_cons (a : Int) (l : List Int) : psum (a :: l) = a + psum l := by
  simp only [psum, List.foldl_cons]; rw [foldl_add]; omega
theorem psum_append (a b : List Int) : psum (a ++ b) = psum a + psum b := by
  induction a with
  | nil => simp [psum]
  | cons x a ih => rw [List.cons_append, psum_cons, psum_cons, ih]; omega
/-- Each width may be. -/
def W32 (ws : List Int) : Prop := ∀ x ∈ ws, 1 ≤ x ∧ x ≤ 32
def widthsOk (ws : List Int) : Prop := ws.length ≤ 64 ∧ W32 ws ∧ psum ws % 8 = 0
theorem W32.take {ws : List Int} (h : W32 ws) (n : Nat) : W32 (ws.take n) := fun x hx => h x (List.mem_of_mem_take hx)
theorem psum_bound {ws : List Int} (h : W32 ws) : 0 ≤ psum ws ∧ psum ws ≤ 32 * ws.length := by
  induction ws with
  | nil => simp [psum]
  | cons a l ih =>
    have h1 := ih fun x hx => h x (by simp [hx])
    have h2 := h a (by simp)
    rw [psum_cons]
    simp only [List.length_cons]
    omega
theorem psum_take_le {ws : List Int} (h : W32 ws) (i : Nat) : psum (ws.take i) ≤ psum ws := by
  have e : psum (ws.take i ++ ws.drop i) = psum (ws.take i) + psum (ws.drop i) := psum_append _ _
  rw [List.take_append_drop] at e
  have := (psum_bound (ws := ws.drop i) fun x hx => h x (List.mem_of_mem_drop hx)).1
  omega

/-- The i-th bit, the highest of the first byte being number 0. -/
def bitAt (bs : List Int) (i : Nat) : Int := (bs.getD (i / 8) 0 / 2 ^ (7 - i % 8)) % 2
theorem bitAt_01 (bs : List Int) (i : Nat) : 0 ≤ bitAt bs i ∧ bitAt bs i < 2 := by unfold bitAt; omega
/-- The number of n bits from p on. -/
def fieldV (f : Nat → Int) (p : Nat) : Nat → Int
  | 0 => 0
  | n + 1 => 2 * fieldV f p n + f (p + n)
def fieldsV (f : Nat → Int) : Nat → List Int → List Int
  | _, [] => []
  | p, w :: r => fieldV f p w.toNat :: fieldsV f (p + w.toNat) r
theorem fieldV_bound {f : Nat → Int} (hf : ∀ i, 0 ≤ f i ∧ f i < 2) (p n : Nat) : 0 ≤ fieldV f p n ∧ fieldV f p n < 2 ^ n := by
  induction n with
  | zero => simp [fieldV]
  | succ n ih =>
    have := hf (p + n)
    rw [Int.pow_succ]
    simp only [fieldV]
    omega
theorem pow2_32 {n : Nat} (h : n ≤ 32) : (2 : Int) ^ n ≤ 4294967296 := by
  have : (2 : Int) ^ n ≤ 2 ^ 32 := by exact_mod_cast Nat.pow_le_pow_right (by decide) h
  have e : (2 : Int) ^ 32 = 4294967296 := by decide
  omega
theorem fieldsV_snoc (f : Nat → Int) (a : Int) : ∀ (l : List Int) (p : Nat), W32 l → fieldsV f p (l ++ [a]) = fieldsV f p l ++ [fieldV f (p + (psum l).toNat) a.toNat]
  | [], p, _ => by simp [fieldsV, psum]
  | w :: r, p, h => by
    have hw := h w (by simp)
    have hr : W32 r := fun x hx => h x (by simp [hx])
    have hb := psum_bound hr
    simp only [List.cons_append, fieldsV]
    rw [fieldsV_snoc f a r _ hr, psum_cons]
    congr 3
    rw [show (w + psum r).toNat = w.toNat + (psum r).toNat by omega, Nat.add_assoc]
theorem fieldV_congr {f g : Nat → Int} (p q : Nat) : ∀ n, (∀ i, i < n → f (p + i) = g (q + i)) → fieldV f p n = fieldV g q n
  | 0, _ => rfl
  | n + 1, h => by simp only [fieldV]; rw [fieldV_congr p q n (fun i hi => h i (by omega)), h n (by omega)]

/-! ### The program's own writing of a bit -/
theorem and1_u8 {y : Int} (h0 : 0 ≤ y) (h1 : y < 256) : bitv .and .u8 y 1 = y % 2 := by
  obtain ⟨a, rfl⟩ := Int.eq_ofNat_of_zero_le h0
  unfold bitv
  simp only
  have e : ((BitVec.ofInt IntKind.u8.bits (a : Int) &&& BitVec.ofInt IntKind.u8.bits 1).toNat : Int) = ((a % 2 : Nat) : Int) := by
    rw [BitVec.toNat_and]
    have : (BitVec.ofInt IntKind.u8.bits 1).toNat = 1 := by decide
    rw [this, Nat.and_one_is_mod]
    simp [IntKind.bits]
  rw [e]
  rw [show ((a % 2 : Nat) : Int) = (a : Int) % 2 by omega]
  exact wu8 (by omega) (by omega)
/-- One bit, as the program reads it. -/
theorem bit_read {x : Int} (h0 : 0 ≤ x) (h1 : x < 256) (m : Nat) :
    bitv .and .u8 (Int.fdiv x (2 ^ (min (IntKind.u64.wrap (7 - IntKind.u64.wrap (Int.tmod (m : Int) 8))).toNat 8))) 1 = (x / 2 ^ (7 - m % 8)) % 2 := by
  have e1 : Int.tmod (m : Int) 8 = ((m % 8 : Nat) : Int) := by rw [Int.tmod_eq_emod_of_nonneg (by omega)]; omega
  rw [e1, wu64 (n := ((m % 8 : Nat) : Int)) (by omega) (by omega), wu64 (n := 7 - ((m % 8 : Nat) : Int)) (by omega) (by omega)]
  have e2 : min (7 - ((m % 8 : Nat) : Int)).toNat 8 = 7 - m % 8 := by omega
  rw [e2, Int.fdiv_eq_ediv_of_nonneg _ (by exact Int.pow_nonneg (by decide))]
  have hp : (1 : Int) ≤ 2 ^ (7 - m % 8) := by
    have : (1 : Nat) ≤ 2 ^ (7 - m % 8) := Nat.one_le_two_pow
    exact_mod_cast this
  have hd0 : 0 ≤ x / 2 ^ (7 - m % 8) := Int.ediv_nonneg h0 (by omega)
  have hd1 : x / 2 ^ (7 - m % 8) ≤ x := Int.ediv_le_self _ h0
  exact and1_u8 hd0 (by omega)
/-- One bit joins, as the program does it. -/
theorem bit_join {v b : Int} (h0 : 0 ≤ v) (h1 : v < 4294967296) (hb0 : 0 ≤ b) (hb1 : b < 2) : bitv .or .i64 (IntKind.i64.wrap (v * 2)) (IntKind.i64.wrap b) = 2 * v + b := by
  rw [w64 (n := v * 2) (by omega) (by omega), w64 (n := b) (by omega) (by omega)]
  unfold bitv
  simp only
  rw [or_low (v * 2) b 1 (by omega) hb0 (by omega) (by omega) IntKind.i64.bits (by show _ < (2 : Int) ^ 64; omega)]
  rw [w64 (by omega) (by omega)]; omega
end Go.Eng
