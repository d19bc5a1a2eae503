/- Chapter 7 by value: what bytes are read as. -/
import Derived.Test.YteppichfkeknbaaDoorBh
import Derived.Test.YteppichfkeknbaaDoorBm
namespace Go.Eng
open Go Go.RowKit
/-- An option that was read: its kind, where its data lie, how many they are; kind 0: a run of padding. -/
structure OP where
  kind : Int
  p : Nat
  n : Nat
def bpart (b : List Int) (p n : Nat) : List Int := (b.drop p).take n
theorem bpart_len {b : List Int} {p n : Nat} (h : p + n ≤ b.length) : (bpart b p n).length = n := by
  unfold bpart; rw [List.length_take, List.length_drop]; omega
def OP.d (b : List Int) (o : OP) : OptD := if o.kind = 0 then ⟨0, List.replicate o.n 0⟩ else ⟨o.kind, bpart b o.p o.n⟩
def flushS (run : Nat) : List OP := if run = 0 then [] else [⟨0, 0, run⟩]
/-- What the bytes from p on hold, so many bytes of padding being behind. -/
def optsS (b : List Int) (p run : Nat) : Option (List OP) :=
  if _h : b.length ≤ p then some (flushS run)
  else if b.getD p 0 = 0 then optsS b (p + 1) (run + 1)
  else if b.length < p + 2 + (b.getD (p + 1) 0).toNat then none
  else if b.getD p 0 = 1 then optsS b (p + 2 + (b.getD (p + 1) 0).toNat) (run + 2 + (b.getD (p + 1) 0).toNat)
  else (optsS b (p + 2 + (b.getD (p + 1) 0).toNat) 0).map fun l => flushS run ++ ⟨b.getD p 0, p + 2, (b.getD (p + 1) 0).toNat⟩ :: l
termination_by b.length - p
theorem optsS_end {b : List Int} {p run : Nat} (h : b.length ≤ p) : optsS b p run = some (flushS run) := by
  rw [optsS, dif_pos h]
theorem optsS_zero {b : List Int} {p run : Nat} (h : p < b.length) (h0 : b.getD p 0 = 0) : optsS b p run = optsS b (p + 1) (run + 1) := by
  rw [optsS, dif_neg (by omega), if_pos h0]
theorem optsS_none {b : List Int} {p run : Nat} (h : p < b.length) (h0 : b.getD p 0 ≠ 0) (h1 : b.length < p + 2 + (b.getD (p + 1) 0).toNat) : optsS b p run = none := by
  rw [optsS, dif_neg (by omega), if_neg h0, if_pos h1]
theorem optsS_pad {b : List Int} {p run : Nat} (h0 : b.getD p 0 = 1) (h1 : p + 2 + (b.getD (p + 1) 0).toNat ≤ b.length) : optsS b p run = optsS b (p + 2 + (b.getD (p + 1) 0).toNat) (run + 2 + (b.getD (p + 1) 0).toNat) := by
  rw [optsS, dif_neg (by omega), if_neg (by omega), if_neg (by omega), if_pos h0]
theorem optsS_opt {b : List Int} {p run : Nat} (h0 : b.getD p 0 ≠ 0) (h1 : b.getD p 0 ≠ 1) (h2 : p + 2 + (b.getD (p + 1) 0).toNat ≤ b.length) :
    optsS b p run = (optsS b (p + 2 + (b.getD (p + 1) 0).toNat) 0).map fun l => flushS run ++ ⟨b.getD p 0, p + 2, (b.getD (p + 1) 0).toNat⟩ :: l := by
  rw [optsS, dif_neg (by omega), if_neg h0, if_neg (by omega), if_neg h1]
/-- Where no padding begins, what is behind is a run of its own. -/
theorem optsS_flush {b : List Int} {p run : Nat} (h : b.length ≤ p ∨ (b.getD p 0 ≠ 0 ∧ b.getD p 0 ≠ 1)) : optsS b p run = (optsS b p 0).map (flushS run ++ ·) := by
  rcases Nat.lt_or_ge p b.length with hp | hp
  · obtain ⟨h0, h1⟩ : b.getD p 0 ≠ 0 ∧ b.getD p 0 ≠ 1 := h.resolve_left (by omega)
    rcases Nat.lt_or_ge b.length (p + 2 + (b.getD (p + 1) 0).toNat) with h2 | h2
    · rw [optsS_none hp h0 h2, optsS_none hp h0 h2]; rfl
    · rw [optsS_opt h0 h1 h2, optsS_opt h0 h1 h2, Option.map_map]
      congr 1
  · rw [optsS_end hp, optsS_end hp]
    simp [flushS]
theorem flushS_d (b : List Int) (run : Nat) : (flushS run).map (OP.d b) = if run = 0 then [] else [⟨0, List.replicate run 0⟩] := by
  unfold flushS
  split
  · rfl
  · simp [OP.d]
/-- What is read lies within. -/
def OP.inside (b : List Int) (o : OP) : Prop := (o.kind = 0 ∧ 0 < o.n ∧ o.n ≤ b.length) ∨ (2 ≤ o.kind ∧ o.kind ≤ 255 ∧ o.p + o.n ≤ b.length ∧ o.n ≤ 255)
theorem getD_byte {b : List Int} (hB : Bts b) (p : Nat) : 0 ≤ b.getD p 0 ∧ b.getD p 0 ≤ 255 := by
  rw [List.getD_eq_getElem?_getD]
  rcases Nat.lt_or_ge p b.length with h | h
  · rw [List.getElem?_eq_getElem h]; have := hB _ (List.getElem_mem h); simp only [Option.getD_some]; omega
  · rw [List.getElem?_eq_none h]; simp
theorem flushS_inside {b : List Int} {run : Nat} (h : run ≤ b.length) : ∀ o ∈ flushS run, o.inside b := by
  unfold flushS
  split
  · intro o ho; cases ho
  · intro o ho; simp at ho; subst ho; exact .inl ⟨rfl, by show 0 < run; omega, h⟩
theorem optsS_inside {b : List Int} (hB : Bts b) : ∀ (k p run : Nat) (l : List OP), b.length - p ≤ k → run ≤ p → p ≤ b.length → optsS b p run = some l → ∀ o ∈ l, o.inside b := by
  intro k
  induction k with
  | zero =>
    intro p run l hk hr hp h
    rw [optsS_end (by omega)] at h
    injection h with h; subst h
    exact flushS_inside (by omega)
  | succ k ih =>
    intro p run l hk hr hp h
    rcases Nat.lt_or_ge p b.length with hlt | hge
    · have b0 := getD_byte hB p
      have b1 := getD_byte hB (p + 1)
      by_cases h0 : b.getD p 0 = 0
      · rw [optsS_zero hlt h0] at h
        exact ih _ _ _ (by omega) (by omega) (by omega) h
      · rcases Nat.lt_or_ge b.length (p + 2 + (b.getD (p + 1) 0).toNat) with h2 | h2
        · rw [optsS_none hlt h0 h2] at h; cases h
        · by_cases h1 : b.getD p 0 = 1
          · rw [optsS_pad h1 h2] at h
            exact ih _ _ _ (by omega) (by omega) (by omega) h
          · rw [optsS_opt h0 h1 h2] at h
            cases hr2 : optsS b (p + 2 + (b.getD (p + 1) 0).toNat) 0 with
            | none => rw [hr2] at h; cases h
            | some m =>
              rw [hr2] at h
              injection h with h; subst h
              intro o ho
              rcases List.mem_append.1 ho with ho | ho
              · exact flushS_inside (by omega) o ho
              · rcases List.mem_cons.1 ho with rfl | ho
                · exact .inr ⟨by show 2 ≤ b.getD p 0; omega, b0.2, h2, by show (b.getD (p + 1) 0).toNat ≤ 255; omega⟩
                · exact ih _ _ _ (by omega) (by omega) (by omega) hr2 o ho
    · rw [optsS_end hge] at h
      injection h with h; subst h
      exact flushS_inside (by omega)
/-! ### Headers -/
/-- A header that was read: its kind, its options, where its bytes lie, how many they are. -/
structure EP where
  kind : Int
  opts : List OP
  p : Nat
  n : Nat
def EP.d (b : List Int) (x : EP) : ExtD := ⟨x.kind, x.opts.map (OP.d (bpart b x.p x.n)), if x.kind = 43 then bpart b x.p x.n else []⟩
def isH (k : Int) : Prop := k = 0 ∨ k = 43 ∨ k = 60
instance (k : Int) : Decidable (isH k) := by unfold isH; infer_instance
def inS (k : Int) (b : List Int) (p n : Nat) : Option (List OP) := if k = 43 then some [] else optsS (bpart b p n) 0 0
/-- How many bytes a header has behind its first two. -/
def lenH (b : List Int) (p : Nat) : Nat := 8 * (b.getD (p + 1) 0).toNat + 6
def hdrsS (b : List Int) (top : Bool) (k : Int) (p i : Nat) : Except Int (List EP × Int × Nat) :=
  if isH k then
    if k = 0 ∧ (top = false ∨ 0 < i) then .error 73
    else if _h : 8 ≤ i then .error 74
    else if b.length < p + 8 ∨ b.length < p + 2 + lenH b p then .error 72
    else match inS k b (p + 2) (lenH b p) with
      | none => .error 75
      | some os => (hdrsS b top (b.getD p 0) (p + 2 + lenH b p) (i + 1)).map fun r => (⟨k, os, p + 2, lenH b p⟩ :: r.1, r.2)
  else .ok ([], k, p)
termination_by 8 - i
section
variable {b : List Int} {top : Bool} {k : Int} {p i : Nat}
theorem hdrsS_end (h : ¬ isH k) : hdrsS b top k p i = .ok ([], k, p) := by rw [hdrsS, if_neg h]
theorem hdrsS_first (h : isH k) (h1 : k = 0 ∧ (top = false ∨ 0 < i)) : hdrsS b top k p i = .error 73 := by rw [hdrsS, if_pos h, if_pos h1]
theorem hdrsS_many (h : isH k) (h1 : ¬ (k = 0 ∧ (top = false ∨ 0 < i))) (h2 : 8 ≤ i) : hdrsS b top k p i = .error 74 := by rw [hdrsS, if_pos h, if_neg h1, dif_pos h2]
theorem hdrsS_short (h : isH k) (h1 : ¬ (k = 0 ∧ (top = false ∨ 0 < i))) (h2 : i < 8) (h3 : b.length < p + 8 ∨ b.length < p + 2 + lenH b p) : hdrsS b top k p i = .error 72 := by
  rw [hdrsS, if_pos h, if_neg h1, dif_neg (by omega), if_pos h3]
theorem hdrsS_opts (h : isH k) (h1 : ¬ (k = 0 ∧ (top = false ∨ 0 < i))) (h2 : i < 8) (h3 : p + 2 + lenH b p ≤ b.length) (h4 : inS k b (p + 2) (lenH b p) = none) : hdrsS b top k p i = .error 75 := by
  have : p + 8 ≤ p + 2 + lenH b p := by unfold lenH; omega
  rw [hdrsS, if_pos h, if_neg h1, dif_neg (by omega), if_neg (by omega), h4]
theorem hdrsS_step (h : isH k) (h1 : ¬ (k = 0 ∧ (top = false ∨ 0 < i))) (h2 : i < 8) (h3 : p + 2 + lenH b p ≤ b.length) {os : List OP} (h4 : inS k b (p + 2) (lenH b p) = some os) :
    hdrsS b top k p i = (hdrsS b top (b.getD p 0) (p + 2 + lenH b p) (i + 1)).map fun r => (⟨k, os, p + 2, lenH b p⟩ :: r.1, r.2) := by
  have : p + 8 ≤ p + 2 + lenH b p := by unfold lenH; omega
  rw [hdrsS, if_pos h, if_neg h1, dif_neg (by omega), if_neg (by omega), h4]
end
/-- Laid behind others that were read. -/
def behind (l : List EP) (r : Except Int (List EP × Int × Nat)) : Except Int (List EP × Int × Nat) := r.map fun r => (l ++ r.1, r.2)
theorem behind_nil (r : Except Int (List EP × Int × Nat)) : behind [] r = r := by
  cases r <;> rfl
theorem behind_map (l : List EP) (x : EP) (r : Except Int (List EP × Int × Nat)) : behind l (r.map fun r => (x :: r.1, r.2)) = behind (l ++ [x]) r := by
  cases r <;> simp [behind, Except.map]
def EP.inside (b : List Int) (x : EP) : Prop := isH x.kind ∧ x.p + x.n ≤ b.length ∧ x.n ≤ 2046 ∧ x.n % 8 = 6 ∧ inS x.kind b x.p x.n = some x.opts
theorem hdrsS_inside {b : List Int} (hB : Bts b) {top : Bool} : ∀ (m i : Nat) (k : Int) (p : Nat) (l : List EP) (k' : Int) (p' : Nat), 8 - i ≤ m → p ≤ b.length → hdrsS b top k p i = .ok (l, k', p') → (∀ x ∈ l, x.inside b) ∧ p' ≤ b.length ∧ p ≤ p' ∧ ¬ isH k' ∧ (l.length + i ≤ 8 ∨ l = []) ∧ (0 ≤ k ∧ k ≤ 255 → 0 ≤ k' ∧ k' ≤ 255) := by
  intro m
  induction m with
  | zero =>
    intro i k p l k' p' hm hp h
    by_cases hk : isH k
    · by_cases h1 : k = 0 ∧ (top = false ∨ 0 < i)
      · rw [hdrsS_first hk h1] at h; cases h
      · rw [hdrsS_many hk h1 (by omega)] at h; cases h
    · rw [hdrsS_end hk] at h
      cases h
      exact ⟨(fun x hx => by cases hx), hp, Nat.le_refl _, hk, .inr rfl, id⟩
  | succ m ih =>
    intro i k p l k' p' hm hp h
    by_cases hk : isH k
    · by_cases h1 : k = 0 ∧ (top = false ∨ 0 < i)
      · rw [hdrsS_first hk h1] at h; cases h
      · rcases Nat.lt_or_ge i 8 with h2 | h2
        · by_cases h3 : b.length < p + 8 ∨ b.length < p + 2 + lenH b p
          · rw [hdrsS_short hk h1 h2 h3] at h; cases h
          · cases h4 : inS k b (p + 2) (lenH b p) with
            | none => rw [hdrsS_opts hk h1 h2 (by omega) h4] at h; cases h
            | some os =>
              rw [hdrsS_step hk h1 h2 (by omega) h4] at h
              cases hr : hdrsS b top (b.getD p 0) (p + 2 + lenH b p) (i + 1) with
              | error e => rw [hr] at h; cases h
              | ok r =>
                obtain ⟨l2, k2, p2⟩ := r
                rw [hr] at h
                cases h
                obtain ⟨i1, i2, i3, i4, i5, i6⟩ := ih (i + 1) _ _ l2 k' p' (by omega) (by omega) hr
                refine ⟨fun x hx => ?_, i2, by omega, i4, .inl ?_, fun _ => i6 (getD_byte hB p)⟩
                · rcases List.mem_cons.1 hx with rfl | hx
                  · have := getD_byte hB (p + 1)
                    exact ⟨hk, by show p + 2 + lenH b p ≤ b.length; omega, by show lenH b p ≤ 2046; unfold lenH; omega, by show lenH b p % 8 = 6; unfold lenH; omega, h4⟩
                  · exact i1 x hx
                · rcases i5 with e | rfl
                  · simp only [List.length_cons]; omega
                  · simp only [List.length_cons, List.length_nil]; omega
        · rw [hdrsS_many hk h1 h2] at h; cases h
    · rw [hdrsS_end hk] at h
      cases h
      exact ⟨(fun x hx => by cases hx), hp, Nat.le_refl _, hk, .inr rfl, id⟩
theorem hdrsS_ne {b : List Int} {top : Bool} : ∀ {i : Nat} {k : Int} {p : Nat} {e : Int}, hdrsS b top k p i = .error e → e ≠ 0 := by
  have key : ∀ (m i : Nat) (k : Int) (p : Nat) (e : Int), 8 - i ≤ m → hdrsS b top k p i = .error e → e ≠ 0 := by
    intro m
    induction m with
    | zero =>
      intro i k p e hm h
      by_cases hk : isH k
      · by_cases h1 : k = 0 ∧ (top = false ∨ 0 < i)
        · rw [hdrsS_first hk h1] at h; cases h; decide
        · rw [hdrsS_many hk h1 (by omega)] at h; cases h; decide
      · rw [hdrsS_end hk] at h; cases h
    | succ m ih =>
      intro i k p e hm h
      by_cases hk : isH k
      · by_cases h1 : k = 0 ∧ (top = false ∨ 0 < i)
        · rw [hdrsS_first hk h1] at h; cases h; decide
        · rcases Nat.lt_or_ge i 8 with h2 | h2
          · by_cases h3 : b.length < p + 8 ∨ b.length < p + 2 + lenH b p
            · rw [hdrsS_short hk h1 h2 h3] at h; cases h; decide
            · cases h4 : inS k b (p + 2) (lenH b p) with
              | none => rw [hdrsS_opts hk h1 h2 (by omega) h4] at h; cases h; decide
              | some os =>
                rw [hdrsS_step hk h1 h2 (by omega) h4] at h
                cases hr : hdrsS b top (b.getD p 0) (p + 2 + lenH b p) (i + 1) with
                | error e' => rw [hr] at h; cases h; exact ih _ _ _ _ (by omega) hr
                | ok r => rw [hr] at h; cases h
          · rw [hdrsS_many hk h1 h2] at h; cases h; decide
      · rw [hdrsS_end hk] at h; cases h
  intro i k p e h
  exact key (8 - i) i k p e (Nat.le_refl _) h
/-! ### The datagram -/
def ipOf (v : Int) (l : List Int) : IPV := ⟨v, l.getD 0 0, l.getD 1 0, l.getD 2 0, l.getD 3 0, l.getD 4 0, l.getD 5 0, l.getD 6 0, l.getD 7 0, l.getD 8 0, l.getD 9 0, l.getD 10 0, l.getD 11 0, l.getD 12 0, l.getD 13 0, l.getD 14 0, l.getD 15 0⟩
/-- What is behind the forty bytes: headers, Frag, what is next, where the data are. -/
structure Tail6 where
  exts : List EP
  frag : FragV
  next : Int
  p : Nat
def fragAt (b : List Int) (p : Nat) : FragV := ⟨true, decide (b.getD (p + 3) 0 % 2 = 1), ((b.getD (p + 4) 0 * 256 + b.getD (p + 5) 0) * 256 + b.getD (p + 6) 0) * 256 + b.getD (p + 7) 0, (b.getD (p + 2) 0 * 32 + b.getD (p + 3) 0 / 8) * 8⟩
def walkS (b : List Int) (k : Int) (inner : Bool) : Except Int Tail6 :=
  match hdrsS b (!inner) k 0 0 with
  | .error e => .error e
  | .ok (l, k, p) => if k = 44 then
      (if inner = true then .error 76 else if b.length < p + 8 then .error 72
       else if fitsS (fragAt b p) (b.length - (p + 8)) = false then .error 76 else .ok ⟨l, fragAt b p, b.getD p 0, p + 8⟩)
    else .ok ⟨l, FragV.z, k, p⟩
def lenP (b : List Int) : Nat := (b.getD 4 0 * 256 + b.getD 5 0).toNat
def parseS (b : List Int) : Except Int Tail6 :=
  if 65535 < b.length then .error 2 else if b.length < 40 then .error 70 else if b.getD 0 0 / 16 ≠ 6 then .error 71 else if b.length < 40 + lenP b then .error 70
  else walkS (bpart b 40 (lenP b)) (b.getD 6 0) false
def Tail6.d (b : List Int) (t : Tail6) : Ip6D :=
  ⟨b.getD 0 0 % 16 * 16 + b.getD 1 0 / 16, (b.getD 1 0 % 16 * 256 + b.getD 2 0) * 256 + b.getD 3 0, b.getD 7 0, ipOf 6 (bpart b 8 16), ipOf 6 (bpart b 24 16), t.exts.map (EP.d (bpart b 40 (lenP b))), t.frag, t.next, (bpart b 40 (lenP b)).drop t.p⟩
def emptyD : Ip6D := ⟨0, 0, 0, IPV.z, IPV.z, [], FragV.z, 0, []⟩
/-- The datagram and the error of what was read. -/
def parsed (b : List Int) : Ip6D × Int := match parseS b with
  | .error e => (emptyD, e)
  | .ok t => (t.d b, 0)
def chainS (k : Int) (b : List Int) : Except Int Tail6 := if k < 0 ∨ 255 < k then .error 1 else if 65535 < b.length then .error 2 else walkS b k true
def chained (k : Int) (b : List Int) : List ExtD × Int × List Int × Int := match chainS k b with
  | .error e => ([], 0, [], e)
  | .ok t => (t.exts.map (EP.d b), t.next, b.drop t.p, 0)
def canonS (b : List Int) : Bool := match parseS b with
  | .error _ => false
  | .ok t => decide ((ser6S (t.d b)).2 = 0 ∧ (ser6S (t.d b)).1 = b)
def hopS (b : List Int) : List Int × Int := if b.length < 40 then (b, 70) else if b.getD 0 0 / 16 ≠ 6 then (b, 71) else if b.getD 7 0 < 2 then (b, 77) else (b.set 7 (b.getD 7 0 - 1), 0)
end Go.Eng
/- Chapter 7 by value: what is written is read as it was (options, headers). -/
namespace Go.Eng
open Go Go.RowKit
theorem getD_drop (b : List Int) (p j : Nat) : b.getD (p + j) 0 = (b.drop p).getD j 0 := by
  rw [List.getD_eq_getElem?_getD, List.getD_eq_getElem?_getD, List.getElem?_drop]
theorem drop_len {b c : List Int} {p : Nat} (h : b.drop p = c) (hp : p ≤ b.length) : b.length = p + c.length := by
  have := congrArg List.length h
  rw [List.length_drop] at this
  omega
theorem drop_more {b c r : List Int} {p : Nat} (h : b.drop p = c ++ r) : b.drop (p + c.length) = r := by
  rw [← List.drop_drop, h, List.drop_left]
theorem bpart_of {b c r : List Int} {p : Nat} (h : b.drop p = c ++ r) : bpart b p c.length = c := by
  unfold bpart; rw [h, List.take_left]
/-- Options, written from the first on. -/
def wrF : Bool → List OptD → Option (List Int)
  | _, [] => some []
  | prev, o :: r => match optBytes prev o, wrF (decide (o.kind = 0)) r with
    | some b, some c => some (b ++ c)
    | _, _ => none
theorem optF_wr (a : List OptD) : ∀ (r : List OptD) (out : List Int), optF (a ++ r) a.length = some out → optF (a ++ r) (a ++ r).length = (wrF (prevZ (a ++ r) a.length) r).map (out ++ ·) := by
  intro r
  induction r generalizing a with
  | nil => intro out h; simp only [List.append_nil] at h ⊢; rw [h]; simp [wrF]
  | cons o r ih =>
    intro out h
    have ho : (a ++ o :: r)[a.length]? = some o := by simp
    have hs := optF_step h ho
    have e : a ++ o :: r = (a ++ [o]) ++ r := by simp
    have hp : prevZ (a ++ o :: r) (a.length + 1) = decide (o.kind = 0) := by
      show (match (a ++ o :: r)[a.length]? with
        | some o => decide (o.kind = 0)
        | none => false) = _
      rw [ho]
    unfold wrF
    cases hb : optBytes (prevZ (a ++ o :: r) a.length) o with
    | none =>
      rw [hb] at hs
      simp only at hs
      rw [optF_none hs _ (by simp)]
      rfl
    | some b =>
      rw [hb] at hs
      simp only at hs
      have hs' : optF ((a ++ [o]) ++ r) (a ++ [o]).length = some (out ++ b) := by rw [← e]; simpa using hs
      have := ih (a ++ [o]) (out ++ b) hs'
      rw [← e] at this
      rw [this]
      have hl : (a ++ [o]).length = a.length + 1 := by simp
      rw [hl, hp]
      cases wrF (decide (o.kind = 0)) r with
      | none => rfl
      | some c => simp
theorem putOptsS_wr (l : List OptD) : putOptsS l = match wrF false l with
    | some out => if out.length % 8 ≠ 6 ∨ 2046 < out.length then ([], 75) else (out, 0)
    | none => ([], 75) := by
  have h := optF_wr [] l [] rfl
  simp only [List.nil_append, List.length_nil] at h
  have e : prevZ l 0 = false := rfl
  rw [e] at h
  unfold putOptsS
  rw [h]
  cases wrF false l <;> rfl
/-- Padding that was written is read as so many bytes of it. -/
theorem padS_read {b : List Int} : ∀ (k n p run : Nat) (r : List Int), n ≤ k → b.drop p = padS n ++ r → p ≤ b.length → optsS b p run = optsS b (p + n) (run + n) := by
  intro k
  induction k with
  | zero =>
    intro n p run r hn h hp
    have : n = 0 := by omega
    subst this; rfl
  | succ k ih =>
    intro n p run r hn h hp
    have hlen := drop_len h hp
    rw [List.length_append, padS_len] at hlen
    rcases Nat.lt_or_ge 1 n with h1 | h1
    · rw [padS_step h1] at h
      have b0 : b.getD p 0 = 1 := by have := getD_drop b p 0; rw [h] at this; simpa using this
      have b1 : b.getD (p + 1) 0 = ((min n 257 - 2 : Nat) : Int) := by have := getD_drop b p 1; rw [h] at this; simpa using this
      have hd : b.drop (p + min n 257) = padS (n - min n 257) ++ r := by
        have e : (1 :: ((min n 257 - 2 : Nat) : Int) :: (List.replicate (min n 257 - 2) 0 ++ padS (n - min n 257))) ++ r = (1 :: ((min n 257 - 2 : Nat) : Int) :: List.replicate (min n 257 - 2) 0) ++ (padS (n - min n 257) ++ r) := by simp
        rw [e] at h
        have := drop_more h
        rw [← this]
        congr 2
        simp only [List.length_cons, List.length_replicate]
        omega
      rw [optsS_pad b0 (by rw [b1]; omega), b1, Int.toNat_natCast]
      rw [show p + 2 + (min n 257 - 2) = p + min n 257 by omega, show run + 2 + (min n 257 - 2) = run + min n 257 by omega]
      rw [ih (n - min n 257) _ _ r (by omega) hd (by omega)]
      congr 1 <;> omega
    · rcases Nat.eq_zero_or_pos n with rfl | hp0
      · rfl
      · have : n = 1 := by omega
        subst this
        rw [padS_one] at h
        have b0 : b.getD p 0 = 0 := by have := getD_drop b p 0; rw [h] at this; simpa using this
        rw [optsS_zero (by omega) b0]
def flushD (run : Nat) : List OptD := if run = 0 then [] else [⟨0, List.replicate run 0⟩]
theorem allZ_eq {l : List Int} (h : AllZ l) : l = List.replicate l.length 0 := List.eq_replicate_iff.2 ⟨rfl, h⟩
/-- Options that were written are read as they were. -/
theorem wrF_read {b : List Int} : ∀ (l : List OptD) (prev : Bool) (c : List Int) (p run : Nat), wrF prev l = some c → b.drop p = c → p ≤ b.length → (run = 0 ∨ prev = true) → ∃ os, optsS b p run = some os ∧ os.map (OP.d b) = flushD run ++ l := by
  intro l
  induction l with
  | nil =>
    intro prev c p run h hd hp hr
    injection h with h; subst h
    have := drop_len hd hp
    refine ⟨_, optsS_end (by simp at this; omega), ?_⟩
    rw [flushS_d, List.append_nil]; rfl
  | cons o r ih =>
    intro prev c p run h hd hp hr
    unfold wrF at h
    cases hb : optBytes prev o with
    | none => rw [hb] at h; cases h
    | some ob =>
      cases hw : wrF (decide (o.kind = 0)) r with
      | none => rw [hb, hw] at h; cases h
      | some c' =>
        rw [hb, hw] at h
        injection h with h; subst h
        have hlen := drop_len hd hp
        rw [List.length_append] at hlen
        have hdm := drop_more hd
        unfold optBytes at hb
        split at hb
        · rename_i h0
          split at hb
          · cases hb
          · rename_i h1
            injection hb with hb; subst hb
            have hz : AllZ o.data := Classical.byContradiction fun h => h1 (.inr (.inr h))
            have hne : o.data.length ≠ 0 := fun h => h1 (.inl (List.eq_nil_of_length_eq_zero h))
            have hpf : prev ≠ true := fun h => h1 (.inr (.inl h))
            have hr0 : run = 0 := hr.resolve_right hpf
            subst hr0
            rw [padS_len] at hdm hlen
            rw [padS_read o.data.length o.data.length p 0 c' (Nat.le_refl _) hd hp]
            obtain ⟨os, e1, e2⟩ := ih _ c' (p + o.data.length) (0 + o.data.length) hw hdm (by omega) (.inr (decide_eq_true h0))
            refine ⟨os, e1, ?_⟩
            rw [e2]
            unfold flushD
            rw [if_neg (by omega), if_pos rfl, Nat.zero_add, ← allZ_eq hz]
            simp only [List.nil_append, List.singleton_append, List.cons.injEq, and_true]
            obtain ⟨k, dt⟩ := o
            simp only at h0 ⊢
            rw [h0]
        · rename_i h0
          split at hb
          · cases hb
          · rename_i h1
            injection hb with hb; subst hb
            have b0 : b.getD p 0 = o.kind := by have := getD_drop b p 0; rw [hd] at this; simpa using this
            have b1 : b.getD (p + 1) 0 = (o.data.length : Int) := by have := getD_drop b p 1; rw [hd] at this; simpa using this
            simp only [List.length_cons] at hlen hdm
            rw [optsS_opt (by omega) (by omega) (by rw [b1]; omega), b1, Int.toNat_natCast]
            obtain ⟨os, e1, e2⟩ := ih _ c' (p + 2 + o.data.length) 0 hw (by rw [← hdm]; congr 1; omega) (by omega) (.inl rfl)
            rw [e1]
            refine ⟨_, rfl, ?_⟩
            have hpt : bpart b (p + 2) o.data.length = o.data := by
              have e : b.drop (p + 2) = o.data ++ c' := by
                have e : (o.kind :: (o.data.length : Int) :: o.data) ++ c' = [o.kind, (o.data.length : Int)] ++ (o.data ++ c') := rfl
                rw [e] at hd
                exact drop_more hd
              exact bpart_of e
            rw [List.map_append, List.map_cons, e2, flushS_d]
            show flushD run ++ _ = _
            congr 1
            unfold OP.d
            simp only [b0]
            rw [if_neg h0, hpt]
            rfl
theorem putOptsS_read {l : List OptD} (h : (putOptsS l).2 = 0) : ∃ os, optsS (putOptsS l).1 0 0 = some os ∧ os.map (OP.d (putOptsS l).1) = l ∧ (putOptsS l).1.length % 8 = 6 := by
  rw [putOptsS_wr] at h ⊢
  cases hw : wrF false l with
  | none => rw [hw] at h; exact absurd h (by decide)
  | some out =>
    rw [hw] at h
    simp only at h ⊢
    split at h
    · exact absurd h (by decide)
    · rename_i h1
      rw [if_neg h1]
      obtain ⟨os, e1, e2⟩ := wrF_read (b := out) l false out 0 0 hw rfl (Nat.zero_le _) (.inl rfl)
      refine ⟨os, e1, e2, ?_⟩
      show out.length % 8 = 6
      omega
def firstE (next : Int) : List ExtD → Int
  | [] => next
  | x :: _ => x.kind
/-- Headers, written from the first on. -/
def hdrB (next : Int) : List ExtD → List Int
  | [] => []
  | x :: r => (firstE next r % 256 :: (((bodyS x).1.length / 8 : Nat) : Int) :: (bodyS x).1) ++ hdrB next r
theorem hdrF_B {l : List ExtD} {next : Int} {top : Bool} : ∀ (r a : List ExtD), l = a ++ r → hdrOk l top l.length → (hdrF l next top a.length).2 = 0 → hdrF l next top l.length = ((hdrF l next top a.length).1 ++ hdrB next r, 0) := by
  intro r
  induction r with
  | nil =>
    intro a hl hok h0
    rw [List.append_nil] at hl; subst hl
    simp only [hdrB, List.append_nil]
    rw [← h0]
  | cons x r ih =>
    intro a hl hok h0
    have hx : l[a.length]? = some x := by rw [hl]; simp
    have hlt : a.length < l.length := by rw [hl]; simp
    obtain ⟨k1, k2⟩ := hok a.length x hlt hx
    have hs := hdrF_step h0 hx
    rw [if_neg k1, if_neg (by omega)] at hs
    have := ih (a ++ [x]) (by rw [hl]; simp) hok (by rw [List.length_append, List.length_singleton, hs])
    rw [this, List.length_append, List.length_singleton, hs]
    have ht : thenK l next a.length = firstE next r := by
      unfold thenK
      have : l[a.length + 1]? = r[0]? := by rw [hl, List.getElem?_append_right (by omega)]; simp
      rw [this]
      cases r <;> rfl
    rw [ht]
    simp only [hdrB, List.append_assoc]
theorem headersS_B {l : List ExtD} {next : Int} {top : Bool} (h : (headersS l next top).2 = 0) : (headersS l next top).1 = hdrB next l := by
  obtain ⟨h8, hok, _⟩ := headersS_ok h
  unfold headersS
  rw [if_neg (by omega)]
  have := hdrF_B (l := l) (next := next) (top := top) l [] rfl hok rfl
  rw [this]
  rfl
theorem inS_read {x : ExtD} {b r : List Int} {p : Nat} (h : (bodyS x).2 = 0) (hd : b.drop p = (bodyS x).1 ++ r) : (bodyS x).1.length % 8 = 6 ∧ ∃ os, inS x.kind b p (bodyS x).1.length = some os ∧ EP.d b ⟨x.kind, os, p, (bodyS x).1.length⟩ = x := by
  have hp := bpart_of hd
  unfold bodyS at h hp ⊢
  split at h
  · rename_i h0
    split at h
    · exact absurd h (by decide)
    · rename_i h1
      rw [if_pos h0, if_neg h1] at hp ⊢
      simp only at hp ⊢
      refine ⟨by omega, [], by unfold inS; rw [if_pos h0], ?_⟩
      unfold EP.d
      simp only [h0, if_true, hp, List.map_nil]
      obtain ⟨k, o, dt⟩ := x
      simp only at h0 h1 ⊢
      have : o = [] := Classical.byContradiction fun h => h1 (.inl h)
      rw [h0, this]
  · rename_i h0
    split at h
    · rename_i h1
      split at h
      · exact absurd h (by decide)
      · rename_i h2
        rw [if_neg h0, if_pos h1, if_neg h2] at hp ⊢
        obtain ⟨os, e1, e2, e3⟩ := putOptsS_read h
        refine ⟨e3, os, ?_, ?_⟩
        · unfold inS; rw [if_neg h0, hp, e1]
        · unfold EP.d
          simp only [h0, if_false, hp, e2]
          obtain ⟨k, o, dt⟩ := x
          simp only at h2 ⊢
          have : dt = [] := Classical.byContradiction fun h => h2 h
          rw [this]
    · exact absurd h (by decide)
theorem bodyS_isH {x : ExtD} (h : (bodyS x).2 = 0) : isH x.kind := by
  unfold bodyS at h
  unfold isH
  split at h
  · rename_i h0; exact .inr (.inl h0)
  · split at h
    · rename_i h1; omega
    · exact absurd h (by decide)
/-- Headers that were written are read as they were. -/
theorem hdrB_read {b : List Int} {top : Bool} {next : Int} (hn : ¬ isH next) (hnr : 0 ≤ next ∧ next ≤ 255) : ∀ (l : List ExtD) (i p : Nat) (r : List Int), i + l.length ≤ 8 → (∀ j x, l[j]? = some x → ¬ (x.kind = 0 ∧ ¬ (top = true ∧ i + j = 0)) ∧ (bodyS x).2 = 0) →
    b.drop p = hdrB next l ++ r → p ≤ b.length → ∃ es, hdrsS b top (firstE next l) p i = .ok (es, next, p + (hdrB next l).length) ∧ es.map (EP.d b) = l := by
  intro l
  induction l with
  | nil =>
    intro i p r _ _ hd hp
    exact ⟨[], hdrsS_end hn, rfl⟩
  | cons x l ih =>
    intro i p r hl hok hd hp
    obtain ⟨k1, k2⟩ := hok 0 x rfl
    have hH := bodyS_isH k2
    obtain ⟨K, hKf⟩ : ∃ K, K = firstE next l := ⟨_, rfl⟩
    have hKr : K % 256 = K := by
      rw [hKf]
      cases l with
      | nil => show next % 256 = next; omega
      | cons y l =>
        have := bodyS_isH (hok 1 y rfl).2
        unfold isH at this
        show y.kind % 256 = y.kind
        omega
    have hB : hdrB next (x :: l) = ([K, (((bodyS x).1.length / 8 : Nat) : Int)] ++ (bodyS x).1) ++ hdrB next l := by
      show (firstE next l % 256 :: (((bodyS x).1.length / 8 : Nat) : Int) :: (bodyS x).1) ++ hdrB next l = _
      rw [← hKf, hKr]; rfl
    rw [hB] at hd ⊢
    have hd2 : b.drop p = [K, (((bodyS x).1.length / 8 : Nat) : Int)] ++ ((bodyS x).1 ++ (hdrB next l ++ r)) := by rw [hd]; simp
    have b0 : b.getD p 0 = K := by have := getD_drop b p 0; rw [hd2] at this; simpa using this
    have b1 : b.getD (p + 1) 0 = (((bodyS x).1.length / 8 : Nat) : Int) := by have := getD_drop b p 1; rw [hd2] at this; simpa using this
    have hd3 : b.drop (p + 2) = (bodyS x).1 ++ (hdrB next l ++ r) := drop_more hd2
    obtain ⟨h6, os, hin, hxd⟩ := inS_read k2 hd3
    have hlen := drop_len hd2 hp
    simp only [List.length_append, List.length_cons, List.length_nil] at hlen
    have hL : lenH b p = (bodyS x).1.length := by unfold lenH; rw [b1, Int.toNat_natCast]; omega
    have hstep := hdrsS_step (b := b) (top := top) (k := x.kind) (p := p) (i := i) hH (fun h => k1 ⟨h.1, fun q => by
      rcases h.2 with e | e
      · rw [e] at q; exact absurd q.1 (by decide)
      · omega⟩) (by simp only [List.length_cons] at hl; omega) (by rw [hL]; omega) (os := os) (by rw [hL]; exact hin)
    have hd4 : b.drop (p + 2 + (bodyS x).1.length) = hdrB next l ++ r := drop_more hd3
    obtain ⟨es, e1, e2⟩ := ih (i + 1) (p + 2 + (bodyS x).1.length) r (by simp only [List.length_cons] at hl; omega) (fun j y hj => by
      have := hok (j + 1) y (by simpa using hj)
      refine ⟨fun q => this.1 ⟨q.1, fun t => q.2 ⟨t.1, by omega⟩⟩, this.2⟩) hd4 (by omega)
    refine ⟨⟨x.kind, os, p + 2, (bodyS x).1.length⟩ :: es, ?_, ?_⟩
    · show hdrsS b top x.kind p i = _
      rw [hstep, b0, hL, hKf, e1]
      simp only [Except.map, List.length_append, List.length_cons, List.length_nil]
      congr 3
      omega
    · rw [List.map_cons, hxd, e2]
end Go.Eng
/- Chapter 7 by value: what is written is read as it was (the datagram); what is read may be, and is written in as many bytes. -/
namespace Go.Eng
open Go Go.RowKit
theorem ipOf_bytes (h : IPV) : ipOf h.v h.bytes = h := by
  obtain ⟨v, a0, a1, a2, a3, a4, a5, a6, a7, a8, a9, a10, a11, a12, a13, a14, a15⟩ := h
  rfl
theorem ipOf_back {v : Int} {l : List Int} (h : l.length = 16) : (ipOf v l).bytes = l := by
  match l, h with
  | [a0, a1, a2, a3, a4, a5, a6, a7, a8, a9, a10, a11, a12, a13, a14, a15], _ => rfl
theorem bpart_whole {b c : List Int} {p n : Nat} (h : b.drop p = c) (hn : c.length = n) : bpart b p n = c := by
  unfold bpart; rw [h, List.take_of_length_le (by omega)]
theorem upperS_isH {k : Int} (h : upperS k = true) : ¬ isH k ∧ k ≠ 44 := by
  unfold upperS at h
  have := of_decide_eq_true h
  unfold isH; omega
theorem upperS_of {k : Int} (h : ¬ isH k) (h2 : k ≠ 44) : upperS k = true := by
  unfold upperS; unfold isH at h; exact decide_eq_true (by omega)
theorem four_back {n : Int} (_h0 : 0 ≤ n) (_h1 : n ≤ 4294967295) : ((n / 16777216 * 256 + n / 65536 % 256) * 256 + n / 256 % 256) * 256 + n % 256 = n := by omega
/-- The bytes behind the forty, read again. -/
theorem walkS_back {d : Ip6D} (h : (ser6S d).2 = 0) : ∃ t, walkS (bodyB d) (firstK d) false = .ok t ∧ t.exts.map (EP.d (bodyB d)) = d.exts ∧ t.frag = d.frag ∧ t.next = d.next ∧ (bodyB d).drop t.p = d.data := by
  rcases ser6S_cases d with ⟨h1, _⟩ | ⟨_, hf, hh, hfr, hlen, _⟩
  · exact absurd h h1
  · obtain ⟨h8, hok, _⟩ := headersS_ok hh
    have hB := headersS_B hh
    have hnx : 0 ≤ d.next ∧ d.next ≤ 255 := by unfold fieldBad at hf; omega
    have hbK : firstK d = firstE (behindK d) d.exts := by unfold firstK firstE; cases d.exts <;> rfl
    have hbn : ¬ isH (behindK d) ∧ (0 ≤ behindK d ∧ behindK d ≤ 255) := by
      unfold behindK
      split
      · exact ⟨by unfold isH; omega, by omega⟩
      · rename_i hn
        unfold fragE at hfr
        rw [if_neg hn] at hfr
        split at hfr
        · exact absurd hfr (by decide)
        · split at hfr
          · rename_i hu; exact ⟨(upperS_isH hu).1, hnx⟩
          · exact absurd hfr (by decide)
    have hbody : (bodyB d).drop 0 = hdrB (behindK d) d.exts ++ (fragB d ++ d.data) := by unfold bodyB; rw [hB]; rfl
    obtain ⟨es, e1, e2⟩ := hdrB_read (b := bodyB d) (top := true) hbn.1 hbn.2 d.exts 0 0 (fragB d ++ d.data) (by omega) (fun j x hj => by
      have hjl : j < d.exts.length := (List.getElem?_eq_some_iff.1 hj).1
      have := hok j x hjl hj
      simpa using this) hbody (Nat.zero_le _)
    rw [← hbK, Nat.zero_add] at e1
    have hd2 := drop_more hbody
    rw [Nat.zero_add] at hd2
    unfold walkS
    rw [Bool.not_false, e1]
    simp only
    by_cases hhas : d.frag.has = true
    · have e44 : behindK d = 44 := by unfold behindK; rw [if_pos hhas]
      have hfb : fragB d = [d.next, 0, (d.frag.off + b2i d.frag.more) / 256, (d.frag.off + b2i d.frag.more) % 256] ++ four d.frag.id := by unfold fragB; rw [if_pos hhas]
      have hfl : (fragB d).length = 8 := by rw [hfb]; rfl
      unfold fragE at hfr
      rw [if_pos hhas] at hfr
      split at hfr
      · exact absurd hfr (by decide)
      rename_i hc
      obtain ⟨P, hP⟩ : ∃ P, P = (hdrB (behindK d) d.exts).length := ⟨_, rfl⟩
      rw [← hP] at hd2 ⊢
      have hPl := drop_len hd2 (by rw [hP]; unfold bodyB; rw [List.length_append, hB]; omega)
      rw [List.length_append, hfl] at hPl
      have g : ∀ j, (bodyB d).getD (P + j) 0 = (fragB d ++ d.data).getD j 0 := fun j => by rw [getD_drop, hd2]
      have g0 : (bodyB d).getD P 0 = d.next := by have := g 0; rw [hfb] at this; simpa using this
      have g2 : (bodyB d).getD (P + 2) 0 = (d.frag.off + b2i d.frag.more) / 256 := by have := g 2; rw [hfb] at this; simpa using this
      have g3 : (bodyB d).getD (P + 3) 0 = (d.frag.off + b2i d.frag.more) % 256 := by have := g 3; rw [hfb] at this; simpa using this
      have g4 : (bodyB d).getD (P + 4) 0 = d.frag.id / 16777216 := by have := g 4; rw [hfb] at this; simpa [four] using this
      have g5 : (bodyB d).getD (P + 5) 0 = d.frag.id / 65536 % 256 := by have := g 5; rw [hfb] at this; simpa [four] using this
      have g6 : (bodyB d).getD (P + 6) 0 = d.frag.id / 256 % 256 := by have := g 6; rw [hfb] at this; simpa [four] using this
      have g7 : (bodyB d).getD (P + 7) 0 = d.frag.id % 256 := by have := g 7; rw [hfb] at this; simpa [four] using this
      have hmore : b2i d.frag.more = (if d.frag.more = true then 1 else 0) := rfl
      have hF : fragAt (bodyB d) P = d.frag := by
        unfold fragAt
        rw [g2, g3, g4, g5, g6, g7, four_back (by omega) (by omega)]
        show _ = (⟨d.frag.has, d.frag.more, d.frag.id, d.frag.off⟩ : FragV)
        rw [hhas, hmore]
        congr 1
        · cases d.frag.more with
          | true => simp only [if_true]; exact decide_eq_true (by omega)
          | false => simp only [Bool.false_eq_true, if_false]; exact decide_eq_false (by omega)
        · split <;> omega
      rw [e44, if_pos rfl, if_neg (by decide), if_neg (by omega), hF, if_neg]
      · refine ⟨_, rfl, e2, rfl, g0, ?_⟩
        have := drop_more hd2
        rw [hfl] at this
        exact this
      · rw [show (bodyB d).length - (P + 8) = d.data.length by omega]
        intro hq
        exact hc (.inr (.inr (.inr (.inr (.inr hq)))))
    · have e44 : behindK d = d.next := by unfold behindK; rw [if_neg hhas]
      have hfb : fragB d = [] := by unfold fragB; rw [if_neg hhas]
      unfold fragE at hfr
      rw [if_neg hhas] at hfr
      split at hfr
      · exact absurd hfr (by decide)
      rename_i hc
      split at hfr
      · rename_i hu
        rw [if_neg (by rw [e44]; exact (upperS_isH hu).2)]
        refine ⟨_, rfl, e2, ?_, e44, ?_⟩
        · show (⟨false, false, 0, 0⟩ : FragV) = ⟨d.frag.has, d.frag.more, d.frag.id, d.frag.off⟩
          have h1 : d.frag.has = false := by simpa using hhas
          have h2 : d.frag.more = false := by
            cases hm : d.frag.more with
            | false => rfl
            | true => exact absurd (.inl hm) hc
          rw [h1, h2]
          congr 1 <;> omega
        · rw [hfb, List.nil_append] at hd2
          exact hd2
      · exact absurd hfr (by decide)
theorem serB {d : Ip6D} (h : (ser6S d).2 = 0) : (ser6S d).1 = head6 d (bodyB d).length ++ (d.src.bytes ++ (d.dst.bytes ++ bodyB d)) ∧ 40 + (bodyB d).length ≤ 65535 ∧ ¬ fieldBad d := by
  rcases ser6S_cases d with ⟨h1, _⟩ | ⟨_, hf, _, _, h4, e⟩
  · exact absurd h h1
  · exact ⟨e, h4, hf⟩
/-- What is written is read as it was. -/
theorem parseS_back {d : Ip6D} (h : (ser6S d).2 = 0) : ∃ t, parseS (ser6S d).1 = .ok t ∧ t.d (ser6S d).1 = d ∧ lenP (ser6S d).1 = (bodyB d).length ∧ (ser6S d).1.length = 40 + (bodyB d).length := by
  obtain ⟨e, hl, hf⟩ := serB h
  obtain ⟨t, w1, w2, w3, w4, w5⟩ := walkS_back h
  obtain ⟨b, hb⟩ : ∃ b, b = (ser6S d).1 := ⟨_, rfl⟩
  rw [← hb] at e ⊢
  have hs : d.src.bytes.length = 16 := rfl
  have ht : d.dst.bytes.length = 16 := rfl
  have h8 : (head6 d (bodyB d).length).length = 8 := rfl
  have hbl : b.length = 40 + (bodyB d).length := by rw [e]; simp only [List.length_append, h8, hs, ht]; omega
  have q : ∀ j, j < 8 → b.getD j 0 = (head6 d (bodyB d).length).getD j 0 := fun j hj => by
    rw [e, List.getD_eq_getElem?_getD, List.getElem?_append_left (by rw [h8]; exact hj), ← List.getD_eq_getElem?_getD]
  have q0 : b.getD 0 0 = 96 + d.cls / 16 := q 0 (by decide)
  have q1 : b.getD 1 0 = d.cls % 16 * 16 + d.flow / 65536 := q 1 (by decide)
  have q2 : b.getD 2 0 = d.flow / 256 % 256 := q 2 (by decide)
  have q3 : b.getD 3 0 = d.flow % 256 := q 3 (by decide)
  have q4 : b.getD 4 0 = ((bodyB d).length : Int) / 256 := q 4 (by decide)
  have q5 : b.getD 5 0 = ((bodyB d).length : Int) % 256 := q 5 (by decide)
  have q6 : b.getD 6 0 = firstK d := q 6 (by decide)
  have q7 : b.getD 7 0 = d.hop := q 7 (by decide)
  unfold fieldBad at hf
  have hL : lenP b = (bodyB d).length := by unfold lenP; rw [q4, q5]; omega
  have d8 : b.drop 8 = d.src.bytes ++ (d.dst.bytes ++ bodyB d) := by rw [e]; exact List.drop_left' h8
  have d24 : b.drop 24 = d.dst.bytes ++ bodyB d := drop_more d8
  have d40 : b.drop 40 = bodyB d := drop_more d24
  have hp : bpart b 40 (lenP b) = bodyB d := bpart_whole d40 hL.symm
  have p8 : bpart b 8 16 = d.src.bytes := bpart_of d8
  have p24 : bpart b 24 16 = d.dst.bytes := bpart_of d24
  refine ⟨t, ?_, ?_, hL, hbl⟩
  · unfold parseS
    rw [if_neg (by omega), if_neg (by omega), if_neg (by rw [q0]; omega), if_neg (by omega), hp, q6, w1]
  · unfold Tail6.d
    rw [hp, p8, p24, w2, w3, w4, w5, q0, q1, q2, q3, q7]
    have hsv : d.src.v = 6 := by omega
    have htv : d.dst.v = 6 := by omega
    have is := ipOf_bytes d.src
    have it := ipOf_bytes d.dst
    rw [hsv] at is
    rw [htv] at it
    rw [is, it]
    obtain ⟨cls, flow, hop, src, dst, exts, frag, next, data⟩ := d
    simp only at hf ⊢
    congr 1
    · omega
    · omega
theorem parsed_back {d : Ip6D} (h : (ser6S d).2 = 0) : parsed (ser6S d).1 = (d, 0) := by
  obtain ⟨t, h1, h2, _⟩ := parseS_back h
  unfold parsed; rw [h1]; simp only [h2]
theorem canonS_back {d : Ip6D} (h : (ser6S d).2 = 0) : canonS (ser6S d).1 = true := by
  obtain ⟨t, h1, h2, _⟩ := parseS_back h
  unfold canonS; rw [h1]; show decide ((ser6S (t.d _)).2 = 0 ∧ (ser6S (t.d _)).1 = _) = true; rw [h2]; exact decide_eq_true ⟨h, rfl⟩
/-! ### What is read may be -/
theorem wrF_of {b : List Int} (hB : Bts b) : ∀ (k p run : Nat) (l : List OP), b.length - p ≤ k → p ≤ b.length → optsS b p run = some l → ∃ c, wrF false (l.map (OP.d b)) = some c ∧ c.length = run + (b.length - p) := by
  have fl : ∀ (run : Nat) (r : List OptD) (c : List Int), wrF false r = some c → (∀ o, r[0]? = some o → o.kind ≠ 0) → wrF false (flushD run ++ r) = some (padS run ++ c) := by
    intro run r c hw h0
    unfold flushD
    split
    · rename_i e; subst e; rw [padS_zero]; simpa using hw
    · rename_i e
      have hw' : wrF true r = some c := by
        cases r with
        | nil => exact hw
        | cons o r =>
          have := h0 o rfl
          unfold wrF optBytes at hw ⊢
          rw [if_neg this] at hw ⊢
          exact hw
      have e1 : optBytes false ⟨0, List.replicate run 0⟩ = some (padS run) := by
        unfold optBytes
        rw [if_pos rfl, if_neg]
        · rw [List.length_replicate]
        · rintro (h | h | h)
          · have := congrArg List.length h; rw [List.length_replicate] at this; exact e this
          · cases h
          · exact h fun x hx => (List.mem_replicate.1 hx).2
      show wrF false (⟨0, List.replicate run 0⟩ :: r) = _
      unfold wrF
      rw [e1]
      simp only [decide_true, hw']
  intro k
  induction k with
  | zero =>
    intro p run l hk hp h
    rw [optsS_end (by omega)] at h
    injection h with h; subst h
    refine ⟨padS run, ?_, by rw [padS_len]; omega⟩
    have := fl run [] [] rfl (fun o h => by cases h)
    rw [flushS_d]
    simpa [flushD] using this
  | succ k ih =>
    intro p run l hk hp h
    rcases Nat.lt_or_ge p b.length with hlt | hge
    · have b0 := getD_byte hB p
      have b1 := getD_byte hB (p + 1)
      by_cases h0 : b.getD p 0 = 0
      · rw [optsS_zero hlt h0] at h
        obtain ⟨c, e1, e2⟩ := ih _ _ _ (by omega) (by omega) h
        exact ⟨c, e1, by omega⟩
      · rcases Nat.lt_or_ge b.length (p + 2 + (b.getD (p + 1) 0).toNat) with h2 | h2
        · rw [optsS_none hlt h0 h2] at h; cases h
        · by_cases h1 : b.getD p 0 = 1
          · rw [optsS_pad h1 h2] at h
            obtain ⟨c, e1, e2⟩ := ih _ _ _ (by omega) (by omega) h
            exact ⟨c, e1, by omega⟩
          · rw [optsS_opt h0 h1 h2] at h
            cases hr2 : optsS b (p + 2 + (b.getD (p + 1) 0).toNat) 0 with
            | none => rw [hr2] at h; cases h
            | some m =>
              rw [hr2] at h
              injection h with h; subst h
              obtain ⟨c, e1, e2⟩ := ih _ _ _ (by omega) (by omega) hr2
              have hpl : (bpart b (p + 2) (b.getD (p + 1) 0).toNat).length = (b.getD (p + 1) 0).toNat := bpart_len (by omega)
              have hod : OP.d b ⟨b.getD p 0, p + 2, (b.getD (p + 1) 0).toNat⟩ = ⟨b.getD p 0, bpart b (p + 2) (b.getD (p + 1) 0).toNat⟩ := by unfold OP.d; rw [if_neg h0]
              have hw : wrF false (OP.d b ⟨b.getD p 0, p + 2, (b.getD (p + 1) 0).toNat⟩ :: m.map (OP.d b)) = some ((b.getD p 0 :: ((bpart b (p + 2) (b.getD (p + 1) 0).toNat).length : Int) :: bpart b (p + 2) (b.getD (p + 1) 0).toNat) ++ c) := by
                rw [hod]
                unfold wrF optBytes
                simp only
                rw [if_neg h0, if_neg (by rw [hpl]; omega), decide_eq_false h0, e1]
              refine ⟨padS run ++ ((b.getD p 0 :: ((bpart b (p + 2) (b.getD (p + 1) 0).toNat).length : Int) :: bpart b (p + 2) (b.getD (p + 1) 0).toNat) ++ c), ?_, ?_⟩
              · rw [List.map_append, List.map_cons, flushS_d]
                exact fl run _ _ hw (fun o ho => by
                  rw [hod] at ho
                  simp only [List.getElem?_cons_zero, Option.some.injEq] at ho
                  subst ho
                  exact h0)
              · simp only [List.length_append, List.length_cons, padS_len, hpl]
                omega
    · rw [optsS_end hge] at h
      injection h with h; subst h
      refine ⟨padS run, ?_, by rw [padS_len]; omega⟩
      have := fl run [] [] rfl (fun o h => by cases h)
      rw [flushS_d]
      simpa [flushD] using this
theorem EP.body {b : List Int} (hB : Bts b) {x : EP} (h : x.inside b) : (bodyS (x.d b)).2 = 0 ∧ (bodyS (x.d b)).1.length = x.n := by
  obtain ⟨hk, hp, hn, h8, hin⟩ := h
  have hpl : (bpart b x.p x.n).length = x.n := bpart_len hp
  unfold bodyS EP.d
  simp only
  unfold inS at hin
  split
  · rename_i h43
    rw [if_pos h43] at hin
    injection hin with hin
    rw [← hin, if_neg]
    · exact ⟨rfl, hpl⟩
    · rintro (h | h)
      · exact absurd rfl h
      · rw [hpl] at h; omega
  · rename_i h43
    rw [if_neg h43] at hin
    rw [if_pos (by unfold isH at hk; omega), if_neg (by simp)]
    obtain ⟨c, e1, e2⟩ := wrF_of ((hB.drop x.p).take x.n) _ 0 0 _ (Nat.le_refl _) (Nat.zero_le _) hin
    have e2 : c.length = x.n := by rw [e2]; show 0 + ((bpart b x.p x.n).length - 0) = x.n; rw [hpl]; omega
    rw [putOptsS_wr]
    have e1 : wrF false (x.opts.map (OP.d (bpart b x.p x.n))) = some c := e1
    rw [e1]
    simp only
    rw [if_neg (by omega)]
    exact ⟨rfl, e2⟩
theorem hdrsS_ok {b : List Int} (hB : Bts b) {top : Bool} : ∀ (m i : Nat) (k : Int) (p : Nat) (l : List EP) (k' : Int) (p' : Nat), 8 - i ≤ m → p ≤ b.length → hdrsS b top k p i = .ok (l, k', p') →
    (∀ (j : Nat) x, l[j]? = some x → ¬ (x.kind = 0 ∧ ¬ (top = true ∧ i + j = 0))) ∧ hl (l.map (EP.d b)) = p' - p := by
  intro m
  induction m with
  | zero =>
    intro i k p l k' p' hm hp h
    by_cases hk : isH k
    · by_cases h1 : k = 0 ∧ (top = false ∨ 0 < i)
      · rw [hdrsS_first hk h1] at h; cases h
      · rw [hdrsS_many hk h1 (by omega)] at h; cases h
    · rw [hdrsS_end hk] at h
      cases h
      exact ⟨fun j x hx => by simp at hx, by simp [hl]⟩
  | succ m ih =>
    intro i k p l k' p' hm hp h
    by_cases hk : isH k
    · by_cases h1 : k = 0 ∧ (top = false ∨ 0 < i)
      · rw [hdrsS_first hk h1] at h; cases h
      · rcases Nat.lt_or_ge i 8 with h2 | h2
        · by_cases h3 : b.length < p + 8 ∨ b.length < p + 2 + lenH b p
          · rw [hdrsS_short hk h1 h2 h3] at h; cases h
          · cases h4 : inS k b (p + 2) (lenH b p) with
            | none => rw [hdrsS_opts hk h1 h2 (by omega) h4] at h; cases h
            | some os =>
              have hall := hdrsS_inside hB (9 - i) i k p l k' p' (by omega) hp h
              rw [hdrsS_step hk h1 h2 (by omega) h4] at h
              cases hr : hdrsS b top (b.getD p 0) (p + 2 + lenH b p) (i + 1) with
              | error e => rw [hr] at h; cases h
              | ok r =>
                obtain ⟨l2, k2, p2⟩ := r
                rw [hr] at h
                cases h
                obtain ⟨i1, i2⟩ := ih (i + 1) _ _ l2 k' p' (by omega) (by omega) hr
                have hin2 := hdrsS_inside hB (9 - i) (i + 1) _ _ l2 k' p' (by omega) (by omega) hr
                have hx := EP.body hB (hall.1 _ List.mem_cons_self)
                refine ⟨fun j x hj => ?_, ?_⟩
                · cases j with
                  | zero =>
                    simp only [List.getElem?_cons_zero, Option.some.injEq] at hj
                    subst hj
                    intro q
                    apply h1
                    refine ⟨q.1, ?_⟩
                    by_cases ht : top = true
                    · exact .inr (Nat.pos_of_ne_zero fun e => q.2 ⟨ht, by omega⟩)
                    · exact .inl (by simpa using ht)
                  | succ j =>
                    have := i1 j x (by simpa using hj)
                    intro q
                    exact this ⟨q.1, fun t => q.2 ⟨t.1, by omega⟩⟩
                · have e : hl (EP.d b ⟨k, os, p + 2, lenH b p⟩ :: l2.map (EP.d b)) = (2 + lenH b p) + hl (l2.map (EP.d b)) := by
                    unfold hl
                    rw [List.map_cons, List.sum_cons, hx.2]
                  rw [List.map_cons, e, i2]
                  have := hin2.2.2.1
                  omega
        · rw [hdrsS_many hk h1 h2] at h; cases h
    · rw [hdrsS_end hk] at h
      cases h
      exact ⟨fun j x hx => by simp at hx, by simp [hl]⟩
theorem hdrsS_wr {b : List Int} (hB : Bts b) {top : Bool} {k k' : Int} {l : List EP} {p' : Nat} (h : hdrsS b top k 0 0 = .ok (l, k', p')) (nx : Int) : (headersS (l.map (EP.d b)) nx top).2 = 0 ∧ (headersS (l.map (EP.d b)) nx top).1.length = p' := by
  obtain ⟨i1, i2, i3, i4, i5, i6⟩ := hdrsS_inside hB 8 0 k 0 l k' p' (by omega) (Nat.zero_le _) h
  obtain ⟨j1, j2⟩ := hdrsS_ok hB 8 0 k 0 l k' p' (by omega) (Nat.zero_le _) h
  have h8 : (l.map (EP.d b)).length ≤ 8 := by
    rw [List.length_map]
    rcases i5 with e | rfl
    · omega
    · simp
  have hok : hdrOk (l.map (EP.d b)) top (l.map (EP.d b)).length := by
    intro j x _ hj
    rw [List.getElem?_map] at hj
    cases hq : l[j]? with
    | none => rw [hq] at hj; cases hj
    | some y =>
      rw [hq] at hj
      simp only [Option.map_some, Option.some.injEq] at hj
      subst hj
      exact ⟨fun q => j1 j y hq ⟨q.1, fun t => q.2 ⟨t.1, by omega⟩⟩, (EP.body hB (i1 y (List.mem_of_getElem? hq))).1⟩
  have h0 := headersS_of (next := nx) h8 hok
  exact ⟨h0, by have := (headersS_ok h0).2.2; omega⟩
end Go.Eng
/- Chapter 7 by value: what is read may be, and is written in as many bytes; a chain that was put is read as it was; one hop. -/
namespace Go.Eng
open Go Go.RowKit
theorem ser6S_of {d : Ip6D} (h1 : ¬ fieldBad d) (h2 : (headersS d.exts (behindK d) true).2 = 0) (h3 : fragE d = 0) (h4 : 40 + (bodyB d).length ≤ 65535) :
    ser6S d = (head6 d (bodyB d).length ++ (d.src.bytes ++ (d.dst.bytes ++ bodyB d)), 0) := by
  unfold ser6S
  rw [if_neg h1, if_neg (by omega), if_neg (by omega), if_neg (by omega)]
theorem ser6S_size {d : Ip6D} (h : (ser6S d).2 = 0) : (ser6S d).1.length = 40 + (bodyB d).length := by
  obtain ⟨_, _, _, h⟩ := parseS_back h
  exact h.2
theorem parseS_ok {l : List Int} {t : Tail6} (h : parseS l = .ok t) : l.length ≤ 65535 ∧ 40 ≤ l.length ∧ 40 + lenP l ≤ l.length ∧ walkS (bpart l 40 (lenP l)) (l.getD 6 0) false = .ok t := by
  unfold parseS at h
  split at h
  · cases h
  · split at h
    · cases h
    · split at h
      · cases h
      · split at h
        · cases h
        · exact ⟨by omega, by omega, by omega, h⟩
/-- What is read may be, and is written in as many bytes as its header said. -/
theorem ser_of_parse {l : List Int} (hB : Bts l) {t : Tail6} (h : parseS l = .ok t) : (ser6S (t.d l)).2 = 0 ∧ (ser6S (t.d l)).1.length = 40 + lenP l := by
  obtain ⟨h1, h2, h3, hw⟩ := parseS_ok h
  obtain ⟨L, hL⟩ : ∃ L, L = bpart l 40 (lenP l) := ⟨_, rfl⟩
  have hLl : L.length = lenP l := by rw [hL]; exact bpart_len h3
  have hLB : Bts L := by rw [hL]; exact (hB.drop _).take _
  rw [← hL] at hw
  have b0 := getD_byte hB 0
  have b1 := getD_byte hB 1
  have b2 := getD_byte hB 2
  have b3 := getD_byte hB 3
  have b6 := getD_byte hB 6
  have b7 := getD_byte hB 7
  obtain ⟨d, hd⟩ : ∃ d, d = t.d l := ⟨_, rfl⟩
  have e1 : d.cls = l.getD 0 0 % 16 * 16 + l.getD 1 0 / 16 := by rw [hd]; rfl
  have e2 : d.flow = (l.getD 1 0 % 16 * 256 + l.getD 2 0) * 256 + l.getD 3 0 := by rw [hd]; rfl
  have e3 : d.hop = l.getD 7 0 := by rw [hd]; rfl
  have e4 : d.src.v = 6 := by rw [hd]; rfl
  have e5 : d.dst.v = 6 := by rw [hd]; rfl
  have e6 : d.exts = t.exts.map (EP.d L) := by rw [hd, hL]; rfl
  have e7 : d.frag = t.frag := by rw [hd]; rfl
  have e8 : d.next = t.next := by rw [hd]; rfl
  have e9 : d.data = L.drop t.p := by rw [hd, hL]; rfl
  rw [← hd]
  have key : 0 ≤ t.next ∧ t.next ≤ 255 ∧ ∃ p', (headersS d.exts (behindK d) true).2 = 0 ∧ (headersS d.exts (behindK d) true).1.length = p' ∧ fragE d = 0 ∧ p' + (fragB d).length + d.data.length = lenP l := by
    unfold walkS at hw
    rw [Bool.not_false] at hw
    cases hh : hdrsS L true (l.getD 6 0) 0 0 with
    | error e => rw [hh] at hw; cases hw
    | ok r =>
      obtain ⟨es, k', p'⟩ := r
      obtain ⟨i1, i2, i3, i4, i5, i6⟩ := hdrsS_inside hLB 8 0 _ 0 es k' p' (by omega) (Nat.zero_le _) hh
      have i6 := i6 b6
      rw [hh] at hw
      simp only at hw
      by_cases h44 : k' = 44
      · rw [if_pos h44, if_neg (by decide)] at hw
        split at hw
        · cases hw
        rename_i h8
        split at hw
        · cases hw
        rename_i hft
        injection hw with hw
        have hex : t.exts = es := by rw [← hw]
        have hfr : t.frag = fragAt L p' := by rw [← hw]
        have hnx : t.next = L.getD p' 0 := by rw [← hw]
        have htp : t.p = p' + 8 := by rw [← hw]
        rw [hex] at e6; rw [hfr] at e7; rw [hnx] at e8; rw [htp] at e9
        have bn := getD_byte hLB p'
        have hwr := hdrsS_wr hLB hh (behindK d)
        rw [← e6] at hwr
        have c2 := getD_byte hLB (p' + 2)
        have c3 := getD_byte hLB (p' + 3)
        have c4 := getD_byte hLB (p' + 4)
        have c5 := getD_byte hLB (p' + 5)
        have c6 := getD_byte hLB (p' + 6)
        have c7 := getD_byte hLB (p' + 7)
        have hdl : d.data.length = L.length - (p' + 8) := by rw [e9, List.length_drop]
        refine ⟨by omega, by omega, p', hwr.1, hwr.2, ?_, ?_⟩
        · unfold fragE
          have hhas : d.frag.has = true := by rw [e7]; rfl
          rw [if_pos hhas, hdl, e7, if_neg]
          have hft2 : fitsS (fragAt L p') (L.length - (p' + 8)) = true := by simpa using hft
          unfold fragAt at hft2 ⊢
          simp only
          rw [hft2]
          intro hq
          rcases hq with hq | hq | hq | hq | hq | hq
          · omega
          · omega
          · omega
          · omega
          · omega
          · cases hq
        · have hfb : (fragB d).length = 8 := by unfold fragB; rw [if_pos (by rw [e7]; rfl)]; rfl
          rw [hfb, hdl]; omega
      · rw [if_neg h44] at hw
        injection hw with hw
        have hex : t.exts = es := by rw [← hw]
        have hfr : t.frag = FragV.z := by rw [← hw]
        have hnx : t.next = k' := by rw [← hw]
        have htp : t.p = p' := by rw [← hw]
        rw [hex] at e6; rw [hfr] at e7; rw [hnx] at e8; rw [htp] at e9
        have hwr := hdrsS_wr hLB hh (behindK d)
        rw [← e6] at hwr
        have hdl : d.data.length = L.length - p' := by rw [e9, List.length_drop]
        refine ⟨by omega, by omega, p', hwr.1, hwr.2, ?_, ?_⟩
        · unfold fragE
          rw [e7, if_neg (by decide), if_neg (by unfold FragV.z; simp), e8, if_pos (upperS_of i4 h44)]
        · have hfb : fragB d = [] := by unfold fragB; rw [if_neg (by rw [e7]; decide)]
          rw [hfb, hdl, List.length_nil]; omega
  obtain ⟨n1, n2, p', k1, k2, k3, k4⟩ := key
  have hbl : (bodyB d).length = lenP l := by
    unfold bodyB
    simp only [List.length_append]
    omega
  have hok : (ser6S d).2 = 0 := by
    rw [ser6S_of ?_ k1 k3 (by omega)]
    unfold fieldBad
    rw [e1, e2, e3, e4, e5, e8]
    omega
  exact ⟨hok, by rw [ser6S_size hok, hbl]⟩
theorem canon_ok {l : List Int} (hB : Bts l) {t : Tail6} (h : parseS l = .ok t) : canonS l = decide (l = (ser6S (t.d l)).1) := by
  unfold canonS
  rw [h]
  simp only
  refine decide_eq_decide.2 ⟨fun q => q.2.symm, fun q => ⟨(ser_of_parse hB h).1, q.symm⟩⟩
theorem parsed_ok {l : List Int} {t : Tail6} (h : parseS l = .ok t) : parsed l = (t.d l, 0) := by unfold parsed; rw [h]
theorem parsed_err {l : List Int} {e : Int} (h : parseS l = .error e) : parsed l = (emptyD, e) := by unfold parsed; rw [h]
theorem canon_err {l : List Int} {e : Int} (h : parseS l = .error e) : canonS l = false := by unfold canonS; rw [h]
/-! ### Chain of PutChain -/
theorem putChainS_ok {l : List ExtD} {next : Int} (h : (putChainS l next).2 = 0) : (0 ≤ next ∧ next ≤ 255) ∧ (headersS l next false).2 = 0 ∧ upperS next = true ∧ (putChainS l next).1 = (headersS l next false).1 := by
  unfold putChainS at h ⊢
  split at h
  · exact absurd h (by decide)
  · rename_i h1
    split at h
    · rename_i h2; exact absurd h h2
    · rename_i h2
      split at h
      · rename_i h3
        rw [if_neg h1, if_neg h2, if_pos h3]
        exact ⟨by omega, by omega, h3, rfl⟩
      · exact absurd h (by decide)
theorem putChainS_err {l : List ExtD} {next : Int} (h : (putChainS l next).2 ≠ 0) : (putChainS l next).1 = [] := by
  unfold putChainS at h ⊢
  split
  · rfl
  · split
    · rfl
    · split
      · rename_i h1 h2 h3; rw [if_neg h1, if_neg h2, if_pos h3] at h; exact absurd rfl h
      · rfl
theorem firstE_range {l : List ExtD} {next : Int} {top : Bool} (hn : 0 ≤ next ∧ next ≤ 255) (h : (headersS l next top).2 = 0) : 0 ≤ firstE next l ∧ firstE next l ≤ 255 := by
  cases l with
  | nil => exact hn
  | cons x l =>
    have := bodyS_isH ((headersS_ok h).2.1 0 x (by simp) rfl).2
    unfold isH at this
    show 0 ≤ x.kind ∧ x.kind ≤ 255
    omega
theorem chain_back {l : List ExtD} {next : Int} {D : List Int} (h : (putChainS l next).2 = 0) (hl : ((putChainS l next).1 ++ D).length ≤ 65535) : chained (firstE next l) ((putChainS l next).1 ++ D) = (l, next, D, 0) := by
  obtain ⟨hn, hh, hu, hb⟩ := putChainS_ok h
  obtain ⟨h8, hok, _⟩ := headersS_ok hh
  have hB := headersS_B hh
  rw [hb, hB] at hl ⊢
  obtain ⟨es, e1, e2⟩ := hdrB_read (b := hdrB next l ++ D) (top := false) (upperS_isH hu).1 hn l 0 0 D (by omega) (fun j x hj => by
    have hjl : j < l.length := (List.getElem?_eq_some_iff.1 hj).1
    have := hok j x hjl hj
    simpa using this) rfl (Nat.zero_le _)
  have hr := firstE_range (top := false) hn hh
  unfold chained chainS walkS
  rw [if_neg (by omega), if_neg (by omega), Bool.not_true, e1]
  simp only
  rw [if_neg (upperS_isH hu).2]
  simp only [e2, Nat.zero_add, List.drop_left]
theorem links_ser {d : Ip6D} (hf : d.frag = FragV.z) (hb : ¬ fieldBad d) (h : (putChainS d.exts d.next).2 = 0) (hl : 40 + ((putChainS d.exts d.next).1 ++ d.data).length ≤ 65535) :
    ser6S d = (head6 d ((putChainS d.exts d.next).1 ++ d.data).length ++ (d.src.bytes ++ (d.dst.bytes ++ ((putChainS d.exts d.next).1 ++ d.data))), 0) ∧ firstK d = firstE d.next d.exts := by
  obtain ⟨hn, hh, hu, hpb⟩ := putChainS_ok h
  obtain ⟨h8, hok, _⟩ := headersS_ok hh
  have hbk : behindK d = d.next := by unfold behindK; rw [hf, if_neg (by decide)]
  have h2 : (headersS d.exts (behindK d) true).2 = 0 := headersS_of h8 fun j x hj hx => by
    have := hok j x hj hx
    exact ⟨fun q => this.1 ⟨q.1, fun t => by cases t.1⟩, this.2⟩
  have hB1 := headersS_B hh
  have hB2 := headersS_B h2
  have hfb : fragB d = [] := by unfold fragB; rw [hf, if_neg (by decide)]
  have hbody : bodyB d = (putChainS d.exts d.next).1 ++ d.data := by
    unfold bodyB; rw [hB2, hbk, hfb, List.nil_append, hpb, hB1]
  have hfe : fragE d = 0 := by
    unfold fragE
    rw [hf, if_neg (by decide), if_neg (by unfold FragV.z; simp), if_pos hu]
  refine ⟨?_, ?_⟩
  · rw [ser6S_of hb h2 hfe (by rw [hbody]; exact hl), hbody]
  · unfold firstK firstE
    rw [hbk]
    cases d.exts <;> rfl
theorem len40 (d : Ip6D) (n : Nat) (X : List Int) : (head6 d n ++ (d.src.bytes ++ (d.dst.bytes ++ X))).length = 40 + X.length := by
  have h8 : (head6 d n).length = 8 := rfl
  have h16 : d.src.bytes.length = 16 := rfl
  have h17 : d.dst.bytes.length = 16 := rfl
  rw [List.length_append, List.length_append, List.length_append, h8, h16, h17]
  omega
/-! ### One hop -/
theorem getD_set7 {l : List Int} {x : Int} {j : Nat} (h : j ≠ 7) : (l.set 7 x).getD j 0 = l.getD j 0 := by
  rw [List.getD_eq_getElem?_getD, List.getElem?_set_ne (fun e => h e.symm), ← List.getD_eq_getElem?_getD]
theorem bpart_set7 {l : List Int} {x : Int} {p n : Nat} (h : 8 ≤ p) : bpart (l.set 7 x) p n = bpart l p n := by
  unfold bpart
  rw [List.drop_set, if_pos (by omega)]
theorem lenP_set7 {l : List Int} {x : Int} : lenP (l.set 7 x) = lenP l := by
  unfold lenP; rw [getD_set7 (by decide), getD_set7 (by decide)]
theorem parseS_set7 {l : List Int} {x : Int} : parseS (l.set 7 x) = parseS l := by
  unfold parseS
  rw [List.length_set, getD_set7 (by decide), getD_set7 (by decide), lenP_set7, bpart_set7 (by decide)]
theorem d_set7 {l : List Int} {x : Int} (t : Tail6) (h : 7 < l.length) : t.d (l.set 7 x) = { t.d l with hop := x } := by
  unfold Tail6.d
  rw [getD_set7 (by decide), getD_set7 (by decide), getD_set7 (by decide), getD_set7 (by decide), lenP_set7, bpart_set7 (by decide), bpart_set7 (by decide), bpart_set7 (by decide)]
  congr 1
  rw [List.getD_eq_getElem?_getD, List.getElem?_set_self h]; rfl
theorem parseS_ne {l : List Int} {er : Int} (hp : parseS l = .error er) : er ≠ 0 := by
  unfold parseS at hp
  split at hp
  · cases hp; decide
  · split at hp
    · cases hp; decide
    · split at hp
      · cases hp; decide
      · split at hp
        · cases hp; decide
        · unfold walkS at hp
          split at hp
          · rename_i e he
            cases hp
            exact hdrsS_ne he
          · split at hp
            · split at hp
              · cases hp; decide
              · split at hp
                · cases hp; decide
                · split at hp
                  · cases hp; decide
                  · cases hp
            · cases hp
theorem parsed_set7 {l : List Int} {x : Int} (h : (parsed l).2 = 0) (hl : 7 < l.length) : parsed (l.set 7 x) = ({ (parsed l).1 with hop := x }, 0) := by
  cases hp : parseS l with
  | error e =>
    rw [parsed_err hp] at h
    exact absurd h (parseS_ne hp)
  | ok t =>
    rw [parsed_ok hp, parsed_ok (parseS_set7.trans hp), d_set7 t hl]
theorem ser_hop {d : Ip6D} (h : (ser6S d).2 = 0) {x : Int} (hx : 0 ≤ x ∧ x ≤ 255) : ser6S { d with hop := x } = ((ser6S d).1.set 7 x, 0) := by
  rcases ser6S_cases d with ⟨h1, _⟩ | ⟨_, hf, hh, hfr, hl, e⟩
  · exact absurd h h1
  · have h' : ¬ fieldBad { d with hop := x } := by
      unfold fieldBad at hf ⊢
      simp only
      omega
    rw [ser6S_of (d := { d with hop := x }) h' hh hfr hl, e]
    rfl
theorem ser_seven {d : Ip6D} (h : (ser6S d).2 = 0) : (ser6S d).1.getD 7 0 = d.hop ∧ 40 ≤ (ser6S d).1.length := by
  rcases ser6S_cases d with ⟨h1, _⟩ | ⟨_, hf, hh, hfr, hl, e⟩
  · exact absurd h h1
  · have := ser6S_size h
    rw [e]
    refine ⟨rfl, by rw [← e]; omega⟩
theorem set7_eq {a b : List Int} {x : Int} (h : a.set 7 x = b.set 7 x) (h7 : a.getD 7 0 = b.getD 7 0) : a = b := by
  have hl : a.length = b.length := by have := congrArg List.length h; simpa using this
  apply List.ext_getElem?
  intro j
  by_cases hj : j = 7
  · subst hj
    rw [List.getD_eq_getElem?_getD, List.getD_eq_getElem?_getD] at h7
    rcases Nat.lt_or_ge 7 a.length with hlt | hge
    · rw [List.getElem?_eq_getElem hlt, List.getElem?_eq_getElem (by omega)] at h7 ⊢
      simpa using h7
    · rw [List.getElem?_eq_none hge, List.getElem?_eq_none (by omega)]
  · have : (a.set 7 x)[j]? = (b.set 7 x)[j]? := by rw [h]
    rw [List.getElem?_set_ne (fun e => hj e.symm), List.getElem?_set_ne (fun e => hj e.symm)] at this
    exact this
theorem canon_set7 {l : List Int} (hB : Bts l) {t : Tail6} (h : parseS l = .ok t) {x : Int} (hx : 0 ≤ x ∧ x ≤ 255) (h7 : 7 < l.length) : canonS (l.set 7 x) = canonS l := by
  have hB' : Bts (l.set 7 x) := by
    intro y hy
    rcases List.mem_or_eq_of_mem_set hy with hy | hy
    · exact hB y hy
    · subst hy; omega
  have hp' : parseS (l.set 7 x) = .ok t := parseS_set7.trans h
  rw [canon_ok hB' hp', canon_ok hB h, d_set7 t h7]
  obtain ⟨hs, _⟩ := ser_of_parse hB h
  rw [ser_hop hs hx]
  obtain ⟨h70, h40⟩ := ser_seven hs
  refine decide_eq_decide.2 ⟨fun q => set7_eq q ?_, fun q => by rw [← q]⟩
  rw [h70]; rfl
theorem set_set7 {l : List Int} {x y : Int} : (l.set 7 x).set 7 y = l.set 7 y := List.set_set ..
theorem getD_set7_self {l : List Int} {x : Int} (h : 7 < l.length) : (l.set 7 x).getD 7 0 = x := by
  rw [List.getD_eq_getElem?_getD, List.getElem?_set_self h]; rfl
theorem set7_self {l : List Int} (h : 7 < l.length) : l.set 7 (l.getD 7 0) = l := by
  rw [List.getD_eq_getElem?_getD, List.getElem?_eq_getElem h]
  simp
end Go.Eng
/- SplitWhole6 by value: the parts are what Chain reads the rest of. -/
namespace Go.Eng
open Go Go.RowKit
theorem walkS_inside {b : List Int} (hB : Bts b) {k : Int} (hk : 0 ≤ k ∧ k ≤ 255) {inner : Bool} {t : Tail6} (h : walkS b k inner = .ok t) : (∀ x ∈ t.exts, x.inside b) ∧ t.p ≤ b.length ∧ t.exts.length ≤ 8 ∧ 0 ≤ t.next ∧ t.next ≤ 255 := by
  unfold walkS at h
  cases hh : hdrsS b (!inner) k 0 0 with
  | error e => rw [hh] at h; cases h
  | ok r =>
    obtain ⟨l, k', p⟩ := r
    obtain ⟨i1, i2, i3, i4, i5, i6⟩ := hdrsS_inside hB 8 0 k 0 l k' p (by omega) (Nat.zero_le _) hh
    have hl8 : l.length ≤ 8 := by
      rcases i5 with e | rfl
      · omega
      · simp
    rw [hh] at h
    simp only at h
    split at h
    · split at h
      · cases h
      · split at h
        · cases h
        · split at h
          · cases h
          · cases h
            exact ⟨i1, by show p + 8 ≤ b.length; omega, hl8, getD_byte hB p⟩
    · cases h
      exact ⟨i1, i2, hl8, i6 hk⟩
theorem bpart_end {b : List Int} {p : Nat} (_h : p ≤ b.length) : bpart b p (b.length - p) = b.drop p := by
  unfold bpart; exact List.take_of_length_le (by rw [List.length_drop]; omega)
theorem last43_drop : ∀ l : List ExtD, ∀ x ∈ l.drop (last43 l), x.kind ≠ 43
  | [], x, hx => by simp at hx
  | y :: r, x, hx => by
    have ih := last43_drop r
    unfold last43 at hx
    split at hx
    · rw [List.drop_succ_cons] at hx; exact ih x hx
    · rename_i h0
      have h0 : last43 r = 0 := by omega
      rw [h0, List.drop_zero] at ih
      split at hx
      · rw [List.drop_succ_cons, List.drop_zero] at hx; exact ih x hx
      · rename_i h1
        rw [List.drop_zero] at hx
        rcases List.mem_cons.1 hx with rfl | hx
        · exact h1
        · exact ih x hx
theorem keptS_drop (l : List ExtD) : ∀ x ∈ l.drop (keptS l), x.kind ≠ 43 := by
  have h := last43_drop l
  unfold keptS
  split
  · exact h
  · rename_i h0
    have h0 : last43 l = 0 := by omega
    rw [h0, List.drop_zero] at h
    exact fun x hx => h x (List.mem_of_mem_drop hx)
theorem firstR_eq (d : Ip6D) : firstR d = firstE d.next (d.exts.drop (keptS d.exts)) := by
  unfold firstR firstE
  split <;> rename_i e <;> rw [e]
theorem whole6 {d : Ip6D} (h : (ser6S d).2 = 0) (hf : d.frag.has = false) : (rest6 d).length ≤ 65535 ∧ (rest6 d).length ≤ (ser6S d).1.length ∧ chained (firstR d) (rest6 d) = (d.exts.drop (keptS d.exts), d.next, d.data, 0) := by
  obtain ⟨_, k2, k3, k4, k5⟩ := split6_len h hf 0
  have hlen : (ser6S d).1.length ≤ 65535 := by
    rcases ser6S_cases d with ⟨h0, _⟩ | ⟨_, _, _, _, h4, h5⟩
    · exact absurd h h0
    · rw [h5]
      simp only [List.length_append]
      have : ∀ n, (head6 d n).length = 8 := fun _ => rfl
      have : d.src.bytes.length = 16 := rfl
      have : d.dst.bytes.length = 16 := rfl
      simp only [*]
      omega
  have hp : putChainS (d.exts.drop (keptS d.exts)) d.next = ((headersS (d.exts.drop (keptS d.exts)) d.next false).1, 0) := by
    unfold putChainS
    unfold fieldBad at k4
    rw [if_neg (by omega), if_neg (by omega), if_pos k5]
  have hr : rest6 d = (putChainS (d.exts.drop (keptS d.exts)) d.next).1 ++ d.data := by rw [hp]; rfl
  refine ⟨by omega, by omega, ?_⟩
  rw [firstR_eq, hr]
  exact chain_back (by rw [hp]) (by rw [← hr]; omega)
theorem two6 {d : Ip6D} {mtu : Int} (h : (ser6S d).2 = 0) (hf : d.frag.has = false) (hl : ¬ ((ser6S d).1.length : Int) ≤ mtu) (_h1 : 1280 ≤ mtu) (hd : hd6 d + 8 ≤ mtu.toNat) {xs : List (Nat × Nat)} (hx : Fit (hd6 d) (hd6 d) mtu.toNat (rest6 d).length 0 xs) (hn : xs ≠ []) : 2 ≤ xs.length := by
  have hr := (whole6 h hf).2.1
  match xs, hx, hn with
  | [], _, hn => exact absurd rfl hn
  | [x], hx, _ =>
    obtain ⟨e, _, _, _, h5, h6, _, _⟩ := hx
    have := h6 rfl
    unfold room at h5
    rw [if_pos rfl] at h5
    unfold hd6 at h5 hd
    omega
  | _ :: _ :: _, _, _ => simp
end Go.Eng
namespace Go.RowKit
open Go Go.Eng
theorem Recs.cells {w : World} {A : Option Addr} {size : Nat} : ∀ {rs : List (List Value)}, (∀ r ∈ rs, r.length = size) → Recs w A size rs → Cells w A rs.flatten := by
  intro rs hs h i v hv
  have key : ∀ (rs : List (List Value)) (i : Nat), (∀ r ∈ rs, r.length = size) → rs.flatten[i]? = some v → ∃ (j k : Nat) (cs : List Value), i = j * size + k ∧ rs[j]? = some cs ∧ cs[k]? = some v := by
    intro rs
    induction rs with
    | nil => intro i _ h; simp at h
    | cons r l ih =>
      intro i hs h
      have hr : r.length = size := hs r (by simp)
      rw [List.flatten_cons] at h
      rcases Nat.lt_or_ge i r.length with hi | hi
      · rw [List.getElem?_append_left hi] at h
        exact ⟨0, i, r, by omega, rfl, h⟩
      · rw [List.getElem?_append_right hi] at h
        obtain ⟨j, k, cs, e, hj, hk⟩ := ih _ (fun r hr => hs r (List.mem_cons_of_mem _ hr)) h
        exact ⟨j + 1, k, cs, by rw [Nat.succ_mul]; omega, by simpa using hj, hk⟩
  obtain ⟨j, k, cs, rfl, hj, hk⟩ := key rs i hs hv
  obtain ⟨a, ha, hc⟩ := h j cs hj
  refine ⟨a, ha, ?_⟩
  have := cellsAt_get hc k v hk
  rw [Nat.zero_add, add_add] at this
  exact this
end Go.RowKit
