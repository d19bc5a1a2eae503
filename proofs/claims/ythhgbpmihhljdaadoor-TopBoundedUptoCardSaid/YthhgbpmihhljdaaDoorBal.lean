/- Chapter 6 by value: what options and a datagram of version 4 are written as. -/
import Derived.Test.YthhgbpmihhljdaaDoorBaj
import Derived.Test.YthhgbpmihhljdaaDoorBak
import Derived.Test.YthhgbpmihhljdaaDoorBai
namespace Go.Eng
open Go Go.RowKit
def opt4B (o : OptD) : Option (List Int) := if o.kind < 2 ∨ 255 < o.kind ∨ 38 < o.data.length then none else some (o.kind :: ((o.data.length + 2 : Nat) : Int) :: o.data)
def opt4F (l : List OptD) : Nat → Option (List Int)
  | 0 => some []
  | i + 1 => match opt4F l i, l[i]? with
    | some out, some o => match opt4B o with
      | some b => some (out ++ b)
      | none => none
    | _, _ => none
def pad4 (n : Nat) : Nat := (4 - n % 4) % 4
def putOpts4 (l : List OptD) : List Int × Int := match opt4F l l.length with
  | some out => if 40 < out.length then ([], 65) else (out ++ List.replicate (pad4 out.length) 0, 0)
  | none => ([], 65)
theorem opt4F_step {l : List OptD} {i : Nat} {out : List Int} {o : OptD} (h : opt4F l i = some out) (ho : l[i]? = some o) : opt4F l (i + 1) = match opt4B o with
      | some b => some (out ++ b)
      | none => none := by
  show (match opt4F l i, l[i]? with
    | some out, some o => match opt4B o with
      | some b => some (out ++ b)
      | none => none
    | _, _ => none) = _
  rw [h, ho]
theorem opt4F_none {l : List OptD} {i : Nat} (h : opt4F l i = none) : ∀ j, i ≤ j → opt4F l j = none := by
  intro j hij
  obtain ⟨d, rfl⟩ : ∃ d, j = i + d := ⟨j - i, by omega⟩
  clear hij
  induction d with
  | zero => exact h
  | succ d ih =>
    show opt4F l ((i + d) + 1) = none
    unfold opt4F; rw [ih]
theorem opt4F_long {l : List OptD} {i : Nat} {out : List Int} (h : opt4F l i = some out) : ∀ d, opt4F l (i + d) = none ∨ ∃ r, opt4F l (i + d) = some (out ++ r) := by
  intro d
  induction d with
  | zero => exact .inr ⟨[], by simpa using h⟩
  | succ d ih =>
    show opt4F l ((i + d) + 1) = none ∨ ∃ r, opt4F l ((i + d) + 1) = some (out ++ r)
    rcases ih with e | ⟨r, e⟩
    · exact .inl (opt4F_none e _ (by omega))
    · unfold opt4F
      rw [e]
      cases l[i + d]? with
      | none => exact .inl rfl
      | some o =>
        simp only
        cases opt4B o with
        | none => exact .inl rfl
        | some b => exact .inr ⟨r ++ b, by simp⟩
theorem putOpts4_none {l : List OptD} {i : Nat} {o : OptD} {out : List Int} (h : opt4F l i = some out) (ho : l[i]? = some o) (hb : opt4B o = none) : putOpts4 l = ([], 65) := by
  have hi := (List.getElem?_eq_some_iff.1 ho).1
  unfold putOpts4
  rw [opt4F_none (i := i + 1) (by rw [opt4F_step h ho, hb]) _ (by omega)]
theorem putOpts4_long {l : List OptD} {i : Nat} {out : List Int} (h : opt4F l i = some out) (hi : i ≤ l.length) (hl : 40 < out.length) : putOpts4 l = ([], 65) := by
  obtain ⟨d, hd⟩ : ∃ d, l.length = i + d := ⟨l.length - i, by omega⟩
  unfold putOpts4
  rw [hd]
  rcases opt4F_long h d with e | ⟨r, e⟩
  · rw [e]
  · rw [e]; simp only; rw [if_pos (by rw [List.length_append]; omega)]
theorem pad4_lt (n : Nat) : pad4 n ≤ 3 ∧ (n + pad4 n) % 4 = 0 := by unfold pad4; omega
theorem putOpts4_len (l : List OptD) : (putOpts4 l).1.length ≤ 40 ∧ (putOpts4 l).1.length % 4 = 0 := by
  unfold putOpts4
  split
  · rename_i out h
    split
    · exact ⟨by simp, rfl⟩
    · have := pad4_lt out.length
      simp only [List.length_append, List.length_replicate]
      omega
  · exact ⟨by simp, rfl⟩
def four4 (p : IPV) : Prop := p.v = 4 ∧ p.a4 = 0 ∧ p.a5 = 0 ∧ p.a6 = 0 ∧ p.a7 = 0 ∧ p.a8 = 0 ∧ p.a9 = 0 ∧ p.a10 = 0 ∧ p.a11 = 0 ∧ p.a12 = 0 ∧ p.a13 = 0 ∧ p.a14 = 0 ∧ p.a15 = 0
instance (p : IPV) : Decidable (four4 p) := by unfold four4; infer_instance
def bad4 (d : Ip4D) : Prop := d.tos < 0 ∨ 255 < d.tos ∨ d.id < 0 ∨ 65535 < d.id ∨ d.off < 0 ∨ 65528 < d.off ∨ d.off % 8 ≠ 0 ∨ d.ttl < 0 ∨ 255 < d.ttl ∨ d.proto < 0 ∨ 255 < d.proto ∨ ¬ four4 d.src ∨ ¬ four4 d.dst
instance (d : Ip4D) : Decidable (bad4 d) := by unfold bad4; infer_instance
def frag4 (mf : Bool) (off : Int) (n : Nat) : Prop := (mf = true ∧ (n = 0 ∨ n % 8 ≠ 0)) ∨ 65515 < off + n
instance (mf : Bool) (off : Int) (n : Nat) : Decidable (frag4 mf off n) := by unfold frag4; infer_instance
def check4S (d : Ip4D) : Int :=
  if bad4 d then 68 else if (putOpts4 d.opts).2 ≠ 0 then (putOpts4 d.opts).2 else if 65535 < 20 + (putOpts4 d.opts).1.length + d.data.length then 63
  else if frag4 d.mf d.off d.data.length then 66 else 0
end Go.Eng
/- Chapter 13 by value: where the parts stand, and what the pieces are. -/
namespace Go.Eng
open Go Go.RowKit
def room (a b mtu p : Nat) : Nat := mtu - (if p = 0 then a else b)
/-- Where the parts of n bytes stand, and how long they are: behind a head of a bytes the first, of b bytes the others. -/
def pieces (a b mtu n : Nat) : Nat → Nat → List (Nat × Nat)
  | 0, _ => []
  | f + 1, p => if n - p ≤ room a b mtu p then [(p, n - p)] else (p, room a b mtu p / 8 * 8) :: pieces a b mtu n f (p + room a b mtu p / 8 * 8)
section
variable {a b mtu n : Nat}
def parts (a b mtu n p : Nat) : List (Nat × Nat) := pieces a b mtu n (n - p + 1) p
end
def hi (o : OptD) : Bool := decide (128 ≤ o.kind)
def hl (l : List ExtD) : Nat := (l.map fun x => 2 + (bodyS x).1.length).sum
end Go.Eng
/- Chapter 7 by value: what is written is read as it was (options, headers). -/
namespace Go.Eng
open Go Go.RowKit
theorem getD_drop (b : List Int) (p j : Nat) : b.getD (p + j) 0 = (b.drop p).getD j 0 := by
  rw [List.getD_eq_getElem?_getD, List.getD_eq_getElem?_getD, List.getElem?_drop]
/-- Options, written from the first on. -/
def wrF : Bool → List OptD → Option (List Int)
  | _, [] => some []
  | prev, o :: r => match optBytes prev o, wrF (decide (o.kind = 0)) r with
    | some b, some c => some (b ++ c)
    | _, _ => none
theorem optF_wr (a : List OptD) : ∀ (r : List OptD) (out : List Int), optF (a ++ r) a.length = some out → optF (a ++ r) (a ++ r).length = (wrF (prevZ (a ++ r) a.length) r).map (out ++ ·) := by
  intro r
  induction r generalizing a with
  | nil => intro out h; simp only [List.append_nil] at h ⊢; rw [h]; simp [wrF]
  | cons o r ih =>
    intro out h
    have ho : (a ++ o :: r)[a.length]? = some o := by simp
    have hs := optF_step h ho
    have e : a ++ o :: r = (a ++ [o]) ++ r := by simp
    have hp : prevZ (a ++ o :: r) (a.length + 1) = decide (o.kind = 0) := by
      show (match (a ++ o :: r)[a.length]? with
        | some o => decide (o.kind = 0)
        | none => false) = _
      rw [ho]
    unfold wrF
    cases hb : optBytes (prevZ (a ++ o :: r) a.length) o with
    | none =>
      rw [hb] at hs
      simp only at hs
      rw [optF_none hs _ (by simp)]
      rfl
    | some b =>
      rw [hb] at hs
      simp only at hs
      have hs' : optF ((a ++ [o]) ++ r) (a ++ [o]).length = some (out ++ b) := by rw [← e]; simpa using hs
      have := ih (a ++ [o]) (out ++ b) hs'
      rw [← e] at this
      rw [this]
      have hl : (a ++ [o]).length = a.length + 1 := by simp
      rw [hl, hp]
      cases wrF (decide (o.kind = 0)) r with
      | none => rfl
      | some c => simp
theorem putOptsS_wr (l : List OptD) : putOptsS l = match wrF false l with
    | some out => if out.length % 8 ≠ 6 ∨ 2046 < out.length then ([], 75) else (out, 0)
    | none => ([], 75) := by
  have h := optF_wr [] l [] rfl
  simp only [List.nil_append, List.length_nil] at h
  have e : prevZ l 0 = false := rfl
  rw [e] at h
  unfold putOptsS
  rw [h]
  cases wrF false l <;> rfl
def flushD (run : Nat) : List OptD := if run = 0 then [] else [⟨0, List.replicate run 0⟩]
end Go.Eng
