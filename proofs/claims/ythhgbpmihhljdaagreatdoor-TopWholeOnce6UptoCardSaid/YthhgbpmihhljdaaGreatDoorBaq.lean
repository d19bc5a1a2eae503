/- Chapter 7 by value: what options, headers and a datagram of version 6 are written as. -/
import Derived.Test.YthhgbpmihhljdaaGreatDoorBap
import Derived.Test.YthhgbpmihhljdaaGreatDoorBah
import Derived.Test.YthhgbpmihhljdaaGreatDoorBaj
import Derived.Test.YthhgbpmihhljdaaGreatDoorBaf
namespace Go.Eng
open Go Go.RowKit
def AllZ (l : List Int) : Prop := ∀ x ∈ l, x = 0
instance (l : List Int) : Decidable (AllZ l) := by unfold AllZ; infer_instance
/-- n bytes of padding. -/
def padF : Nat → Nat → List Int
  | 0, _ => []
  | f + 1, n => if n = 0 then [] else if n = 1 then [0] else 1 :: ((min n 257 - 2 : Nat) : Int) :: (List.replicate (min n 257 - 2) 0 ++ padF f (n - min n 257))
def padS (n : Nat) : List Int := padF n n
theorem padF_len : ∀ f n, n ≤ f → (padF f n).length = n
  | 0, n, h => by have : n = 0 := by omega
                  subst this; rfl
  | f + 1, n, h => by
    unfold padF
    split
    · simp; omega
    · split
      · simp; omega
      · simp only [List.length_cons, List.length_append, List.length_replicate]
        rw [padF_len f _ (by omega)]; omega
theorem padF_fuel : ∀ f g n, n ≤ f → n ≤ g → padF f n = padF g n
  | 0, 0, _, _, _ => rfl
  | 0, g + 1, n, h, _ => by have : n = 0 := by omega
                            subst this; simp [padF]
  | f + 1, 0, n, _, h => by have : n = 0 := by omega
                            subst this; simp [padF]
  | f + 1, g + 1, n, h, k => by
    unfold padF
    split
    · rfl
    · split
      · rfl
      · rw [padF_fuel f g _ (by omega) (by omega)]
theorem padS_len (n : Nat) : (padS n).length = n := padF_len n n (Nat.le_refl _)
theorem padS_zero : padS 0 = [] := rfl
theorem padS_one : padS 1 = [0] := rfl
theorem padS_step {n : Nat} (h : 1 < n) : padS n = 1 :: ((min n 257 - 2 : Nat) : Int) :: (List.replicate (min n 257 - 2) 0 ++ padS (n - min n 257)) := by
  obtain ⟨m, rfl⟩ : ∃ m, n = m + 1 := ⟨n - 1, by omega⟩
  show padF (m + 1) (m + 1) = _
  unfold padF
  rw [if_neg (by omega), if_neg (by omega), padF_fuel m (m + 1 - min (m + 1) 257) _ (by omega) (Nat.le_refl _)]
  rfl
theorem bts_nil : Bts [] := fun _ h => by cases h
theorem bts_cons {x : Int} {l : List Int} (h0 : 0 ≤ x) (h1 : x < 256) (h : Bts l) : Bts (x :: l) := fun y hy => by
  rcases List.mem_cons.1 hy with rfl | hy
  · exact ⟨h0, h1⟩
  · exact h y hy
theorem bts_zeros (n : Nat) : Bts (List.replicate n 0) := fun x hx => by rw [(List.mem_replicate.1 hx).2]; omega
theorem padF_bts : ∀ f n, Bts (padF f n)
  | 0, _ => bts_nil
  | f + 1, n => by
    unfold padF
    split
    · exact bts_nil
    · split
      · exact bts_cons (by decide) (by decide) bts_nil
      · exact bts_cons (by decide) (by decide) (bts_cons (by omega) (by omega) ((bts_zeros _).append (padF_bts f _)))
theorem padS_bts (n : Nat) : Bts (padS n) := padF_bts n n
/-! ### Options -/
def optBytes (prev0 : Bool) (o : OptD) : Option (List Int) :=
  if o.kind = 0 then (if o.data = [] ∨ prev0 = true ∨ ¬ AllZ o.data then none else some (padS o.data.length))
  else if o.kind < 2 ∨ 255 < o.kind ∨ 255 < o.data.length then none else some (o.kind :: (o.data.length : Int) :: o.data)
def prevZ (l : List OptD) (i : Nat) : Bool := match i with
  | 0 => false
  | j + 1 => match l[j]? with
    | some o => decide (o.kind = 0)
    | none => false
def optF (l : List OptD) : Nat → Option (List Int)
  | 0 => some []
  | i + 1 => match optF l i, l[i]? with
    | some out, some o => match optBytes (prevZ l i) o with
      | some b => some (out ++ b)
      | none => none
    | _, _ => none
def putOptsS (l : List OptD) : List Int × Int := match optF l l.length with
  | some out => if out.length % 8 ≠ 6 ∨ 2046 < out.length then ([], 75) else (out, 0)
  | none => ([], 75)
theorem optF_none {l : List OptD} {i : Nat} (h : optF l i = none) : ∀ j, i ≤ j → optF l j = none := by
  intro j hij
  obtain ⟨d, rfl⟩ : ∃ d, j = i + d := ⟨j - i, by omega⟩
  clear hij
  induction d with
  | zero => exact h
  | succ d ih =>
    show optF l ((i + d) + 1) = none
    unfold optF; rw [ih]
theorem optF_long {l : List OptD} {i : Nat} {out : List Int} (h : optF l i = some out) : ∀ d, optF l (i + d) = none ∨ ∃ r, optF l (i + d) = some (out ++ r) := by
  intro d
  induction d with
  | zero => exact .inr ⟨[], by simpa using h⟩
  | succ d ih =>
    show optF l ((i + d) + 1) = none ∨ ∃ r, optF l ((i + d) + 1) = some (out ++ r)
    rcases ih with e | ⟨r, e⟩
    · exact .inl (optF_none e _ (by omega))
    · unfold optF
      rw [e]
      cases l[i + d]? with
      | none => exact .inl rfl
      | some o =>
        simp only
        cases optBytes (prevZ l (i + d)) o with
        | none => exact .inl rfl
        | some b => exact .inr ⟨r ++ b, by simp⟩
theorem putOptsS_none {l : List OptD} {i : Nat} (h : optF l i = none) (hi : i ≤ l.length) : putOptsS l = ([], 75) := by
  unfold putOptsS; rw [optF_none h _ hi]
theorem putOptsS_long {l : List OptD} {i : Nat} {out : List Int} (h : optF l i = some out) (hi : i ≤ l.length) (hl : 2046 < out.length) : putOptsS l = ([], 75) := by
  obtain ⟨d, hd⟩ : ∃ d, l.length = i + d := ⟨l.length - i, by omega⟩
  unfold putOptsS
  rw [hd]
  rcases optF_long h d with e | ⟨r, e⟩
  · rw [e]
  · rw [e]; simp only; rw [if_pos (.inr (by rw [List.length_append]; omega))]
theorem optF_step {l : List OptD} {i : Nat} {out : List Int} {o : OptD} (h : optF l i = some out) (ho : l[i]? = some o) : optF l (i + 1) = match optBytes (prevZ l i) o with
      | some b => some (out ++ b)
      | none => none := by
  show (match optF l i, l[i]? with
    | some out, some o => match optBytes (prevZ l i) o with
      | some b => some (out ++ b)
      | none => none
    | _, _ => none) = _
  rw [h, ho]
theorem optBytes_bts {p : Bool} {o : OptD} {b : List Int} (h : optBytes p o = some b) (ho : Bts o.data) : Bts b := by
  unfold optBytes at h
  split at h
  · split at h
    · cases h
    · injection h with h; subst h; exact padS_bts _
  · split at h
    · cases h
    · injection h with h; subst h; exact bts_cons (by omega) (by omega) (bts_cons (by omega) (by omega) ho)
theorem optF_bts {l : List OptD} (hl : ∀ o ∈ l, Bts o.data) : ∀ {i : Nat} {out : List Int}, optF l i = some out → Bts out
  | 0, out, h => by unfold optF at h; injection h with h; subst h; exact bts_nil
  | i + 1, out, h => by
    unfold optF at h
    split at h
    · rename_i a b o h1 h2
      split at h
      · rename_i c h3
        injection h with h; subst h
        exact (optF_bts hl h1).append (optBytes_bts h3 (hl _ (List.mem_of_getElem? h2)))
      · cases h
    · cases h
theorem putOptsS_bts {l : List OptD} (hl : ∀ o ∈ l, Bts o.data) : Bts (putOptsS l).1 := by
  unfold putOptsS
  split
  · rename_i out h
    split
    · exact bts_nil
    · exact optF_bts hl h
  · exact bts_nil
theorem putOptsS_len (l : List OptD) : (putOptsS l).1.length ≤ 2046 := by
  unfold putOptsS
  split
  · split
    · simp
    · simp only; omega
  · simp
def bodyS (x : ExtD) : List Int × Int :=
  if x.kind = 43 then (if x.opts ≠ [] ∨ x.data.length % 8 ≠ 6 ∨ 2046 < x.data.length then ([], 72) else (x.data, 0))
  else if x.kind = 0 ∨ x.kind = 60 then (if x.data ≠ [] then ([], 72) else putOptsS x.opts) else ([], 72)
def thenK (l : List ExtD) (next : Int) (i : Nat) : Int := match l[i + 1]? with
  | some y => y.kind
  | none => next
def hdrF (l : List ExtD) (next : Int) (top : Bool) : Nat → List Int × Int
  | 0 => ([], 0)
  | i + 1 => if (hdrF l next top i).2 ≠ 0 then hdrF l next top i else match l[i]? with
    | none => hdrF l next top i
    | some x => if x.kind = 0 ∧ ¬ (top = true ∧ i = 0) then ([], 73) else if (bodyS x).2 ≠ 0 then ([], (bodyS x).2)
      else ((hdrF l next top i).1 ++ (thenK l next i % 256 :: (((bodyS x).1.length / 8 : Nat) : Int) :: (bodyS x).1), 0)
def headersS (l : List ExtD) (next : Int) (top : Bool) : List Int × Int := if 8 < l.length then ([], 74) else hdrF l next top l.length
theorem bodyS_len (x : ExtD) : (bodyS x).1.length ≤ 2046 := by
  unfold bodyS
  split
  · split
    · simp
    · simp only; omega
  · split
    · split
      · simp
      · exact putOptsS_len _
    · simp
def ExtD.ok (x : ExtD) : Prop := Bts x.data ∧ ∀ o ∈ x.opts, Bts o.data
theorem bodyS_bts {x : ExtD} (hx : x.ok) : Bts (bodyS x).1 := by
  unfold bodyS
  split
  · split
    · exact bts_nil
    · exact hx.1
  · split
    · split
      · exact bts_nil
      · exact putOptsS_bts hx.2
    · exact bts_nil
theorem hdrF_stop {l : List ExtD} {next : Int} {top : Bool} {i : Nat} (h : (hdrF l next top i).2 ≠ 0) : ∀ j, i ≤ j → hdrF l next top j = hdrF l next top i := by
  intro j hij
  obtain ⟨d, rfl⟩ : ∃ d, j = i + d := ⟨j - i, by omega⟩
  clear hij
  induction d with
  | zero => rfl
  | succ d ih =>
    have e : hdrF l next top ((i + d) + 1) = hdrF l next top (i + d) := by
      conv => lhs; unfold hdrF
      rw [if_pos (by rw [ih]; exact h)]
    exact e.trans ih
theorem hdrF_step {l : List ExtD} {next : Int} {top : Bool} {i : Nat} {x : ExtD} (h : (hdrF l next top i).2 = 0) (hx : l[i]? = some x) : hdrF l next top (i + 1) = if x.kind = 0 ∧ ¬ (top = true ∧ i = 0) then ([], 73) else if (bodyS x).2 ≠ 0 then ([], (bodyS x).2)
      else ((hdrF l next top i).1 ++ (thenK l next i % 256 :: (((bodyS x).1.length / 8 : Nat) : Int) :: (bodyS x).1), 0) := by
  show (if (hdrF l next top i).2 ≠ 0 then hdrF l next top i else match l[i]? with
    | none => hdrF l next top i
    | some x => if x.kind = 0 ∧ ¬ (top = true ∧ i = 0) then ([], 73) else if (bodyS x).2 ≠ 0 then ([], (bodyS x).2)
      else ((hdrF l next top i).1 ++ (thenK l next i % 256 :: (((bodyS x).1.length / 8 : Nat) : Int) :: (bodyS x).1), 0)) = _
  rw [if_neg (by omega), hx]
theorem hdrF_stopped {l : List ExtD} {next : Int} {top : Bool} {i : Nat} {r : List Int × Int} (h8 : l.length ≤ 8) (h : hdrF l next top i = r) (hr : r.2 ≠ 0) (hi : i ≤ l.length) : headersS l next top = r := by
  unfold headersS
  rw [if_neg (by omega), hdrF_stop (by rw [h]; exact hr) _ hi, h]
theorem hdrF_bts {l : List ExtD} {next : Int} {top : Bool} (hl : ∀ x ∈ l, x.ok) : ∀ i, Bts (hdrF l next top i).1
  | 0 => bts_nil
  | i + 1 => by
    unfold hdrF
    split
    · exact hdrF_bts hl i
    · split
      · exact hdrF_bts hl i
      · rename_i x hx
        split
        · exact bts_nil
        · split
          · exact bts_nil
          · exact (hdrF_bts hl i).append (bts_cons (by omega) (by omega) (bts_cons (by omega) (by have := bodyS_len x; omega) (bodyS_bts (hl x (List.mem_of_getElem? hx)))))
theorem hdrF_len {l : List ExtD} {next : Int} {top : Bool} : ∀ i, (hdrF l next top i).1.length ≤ 2048 * i
  | 0 => Nat.le_refl _
  | i + 1 => by
    have ih := hdrF_len (l := l) (next := next) (top := top) i
    unfold hdrF
    split
    · omega
    · split
      · omega
      · rename_i x hx
        have := bodyS_len x
        split
        · simp
        · split
          · simp
          · simp only [List.length_append, List.length_cons]; omega
theorem headersS_bts {l : List ExtD} {next : Int} {top : Bool} (hl : ∀ x ∈ l, x.ok) : Bts (headersS l next top).1 := by
  unfold headersS
  split
  · exact bts_nil
  · exact hdrF_bts hl _
theorem headersS_len (l : List ExtD) (next : Int) (top : Bool) : (headersS l next top).1.length ≤ 16384 := by
  unfold headersS
  split
  · simp
  · have := hdrF_len (l := l) (next := next) (top := top) l.length; omega
def fitsS (f : FragV) (n : Nat) : Bool := decide (¬ ((f.more = true ∧ (n = 0 ∨ n % 8 ≠ 0)) ∨ (0 < f.off ∧ n = 0)) ∧ f.off + n ≤ 65535)
def upperS (k : Int) : Bool := decide (k ≠ 0 ∧ k ≠ 43 ∧ k ≠ 44 ∧ k ≠ 60)
def fragE (h : Ip6D) : Int :=
  if h.frag.has = true then (if h.frag.id < 0 ∨ 4294967295 < h.frag.id ∨ h.frag.off < 0 ∨ h.frag.off % 8 ≠ 0 ∨ 65528 < h.frag.off ∨ fitsS h.frag h.data.length = false then 76 else 0)
  else if h.frag.more = true ∨ h.frag.id ≠ 0 ∨ h.frag.off ≠ 0 then 76 else if upperS h.next = true then 0 else 72
def b2i (b : Bool) : Int := if b = true then 1 else 0
def four (n : Int) : List Int := [n / 16777216, n / 65536 % 256, n / 256 % 256, n % 256]
def fragB (h : Ip6D) : List Int :=
  if h.frag.has = true then [h.next, 0, (h.frag.off + b2i h.frag.more) / 256, (h.frag.off + b2i h.frag.more) % 256] ++ four h.frag.id else []
def behindK (h : Ip6D) : Int := if h.frag.has = true then 44 else h.next
def firstK (h : Ip6D) : Int := match h.exts with
  | x :: _ => x.kind
  | [] => behindK h
def fieldBad (h : Ip6D) : Prop := h.cls < 0 ∨ 255 < h.cls ∨ h.flow < 0 ∨ 1048575 < h.flow ∨ h.hop < 0 ∨ 255 < h.hop ∨ h.src.v ≠ 6 ∨ h.dst.v ≠ 6 ∨ h.next < 0 ∨ 255 < h.next
instance (h : Ip6D) : Decidable (fieldBad h) := by unfold fieldBad; infer_instance
def head6 (h : Ip6D) (n : Nat) : List Int := [96 + h.cls / 16, h.cls % 16 * 16 + h.flow / 65536, h.flow / 256 % 256, h.flow % 256, (n : Int) / 256, (n : Int) % 256, firstK h, h.hop]
def bodyB (h : Ip6D) : List Int := (headersS h.exts (behindK h) true).1 ++ (fragB h ++ h.data)
def ser6S (h : Ip6D) : List Int × Int :=
  if fieldBad h then ([], 78) else if (headersS h.exts (behindK h) true).2 ≠ 0 then ([], (headersS h.exts (behindK h) true).2)
  else if fragE h ≠ 0 then ([], fragE h) else if 65535 < 40 + (bodyB h).length then ([], 2)
  else (head6 h (bodyB h).length ++ (h.src.bytes ++ (h.dst.bytes ++ bodyB h)), 0)
theorem ser6S_cases (h : Ip6D) : (ser6S h).2 ≠ 0 ∧ (ser6S h).1 = [] ∨ (ser6S h).2 = 0 ∧ ¬ fieldBad h ∧ (headersS h.exts (behindK h) true).2 = 0 ∧ fragE h = 0 ∧ 40 + (bodyB h).length ≤ 65535 ∧ (ser6S h).1 = head6 h (bodyB h).length ++ (h.src.bytes ++ (h.dst.bytes ++ bodyB h)) := by
  unfold ser6S
  split
  · exact .inl ⟨by decide, rfl⟩
  · rename_i h1
    split
    · rename_i h2; exact .inl ⟨h2, rfl⟩
    · rename_i h2
      split
      · rename_i h3; exact .inl ⟨h3, rfl⟩
      · rename_i h3
        split
        · exact .inl ⟨by decide, rfl⟩
        · rename_i h4; exact .inr ⟨rfl, h1, by omega, by omega, by omega, rfl⟩
theorem ser6S_len (h : Ip6D) : (ser6S h).1.length ≤ 65535 := by
  rcases ser6S_cases h with ⟨_, e⟩ | ⟨_, _, _, _, h4, e⟩
  · rw [e]; simp
  · rw [e]
    simp only [List.length_append]
    have : (head6 h (bodyB h).length).length = 8 := rfl
    have : h.src.bytes.length = 16 := rfl
    have : h.dst.bytes.length = 16 := rfl
    omega
end Go.Eng
/- Chapter 7, writing: padding, kinds of headers, a run of padding (both programs). -/
namespace Go.Proofs.YthhgbpmihhljdaaGreatDoor
namespace N6
open Go.Eng Go.RowKit
theorem tB : TypeIs Tryz.prog 5 (.int .u8 0) 1 1 := .of (by kernel_rfl)
abbrev ownB (b : Nat) (v : Value) (n : Nat) (xs : List Int) : Fct := Fct.own b 5 1 v n (xs.map (.int .u8))
section
variable {w : World} {Γ : List Fct} {b n c m : Nat} {A : Option Addr} {xs ys : List Int}
/-- Bytes are laid behind a row of the call's own. -/
theorem appB (H : Sep Γ w) (i : Nat) (hi : Γ[i]? = some (ownB b (.slice A n c) n xs)) {A' : Option Addr} {c' : Nat} (hs : Cells w A' (ys.map (.int .u8))) (hl : ys.length = m) (hb : n + m ≤ 140737488355328) (hbase : b ≤ w.heap.size)
    {F : Option Addr → Nat → Nat → World → Prop} (h : ∀ A2 c2 w', Sep (Γ.set i (ownB b (.slice A2 (n + m) c2) (n + m) (xs ++ ys))) w' → n + m ≤ c2 → F A2 (n + m) c2 w') :
    AppVC Tryz.prog #[28, 28] 28 (.slice A n c) (.slice A' m c') w F :=
  AppVC.sep H i Tryz.underlying28 tB rfl (by decide) hi hs (by simpa using hl) (ints_one _ _) (by omega) (by decide) hbase fun A2 c2 w' H' hc => h A2 c2 w' (by rw [← List.map_append] at H'; exact H') hc
/-- Zeros are. -/
theorem appZ (H : Sep Γ w) (i : Nat) (hi : Γ[i]? = some (ownB b (.slice A n c) n xs)) {k : Int} (hk : k = m) (hb : n + m ≤ 140737488355328) (hbase : b ≤ w.heap.size)
    {F : Option Addr → Nat → Nat → World → Prop} (h : ∀ A2 c2 w', Sep (Γ.set i (ownB b (.slice A2 (n + m) c2) (n + m) (xs ++ List.replicate m 0))) w' → n + m ≤ c2 → F A2 (n + m) c2 w') :
    AppVC Tryz.prog #[28, 3] 28 (.slice A n c) (.int .i64 k) w F :=
  AppVC.zeros Tryz.underlying28 Tryz.underlying3 tB hk (H.own i hi) hb hbase fun A2 c2 w' ho hm hc hat =>
    h A2 c2 w' (H.mod i hi hm (fun k _ e => e.symm) _ (by
      show w'.ownsRow b _ 1 _ _ _
      rw [List.map_append, List.map_replicate]; exact ho) fun k hk => by
        rcases hat k hk.symm with e | e
        · exact .inl e.symm
        · exact .inr ⟨e, (ho.lt k hk).2⟩) hc
theorem ownB_len {v : Value} (H : Sep Γ w) (i : Nat) (hi : Γ[i]? = some (ownB b v n xs)) : xs.length = n := by
  have := (H.own i hi).1; simpa using this
/-- padding: n bytes of padding behind a row. -/
theorem padding_spec {k : Nat} (ho : w.ownsRow b 5 1 (.slice A n c) n (xs.map (.int .u8))) (hb : b ≤ w.heap.size) (hn : n + k ≤ 100000000000000) :
    Calls Tryz.prog 107 #[.slice A n c, .int .i64 k] w fun e w' => ∃ A2 c2, e = .returned (.slice A2 (n + k) c2) ∧
      Sep [Fct.rest w (fun j => (Value.slice A n c).ownBlock = some j), ownB b (.slice A2 (n + k) c2) (n + k) (xs ++ padS k)] w' := by
  refine ip6_padding_of A n c k w _ ?_
  unfold ip6_padding_VC
  refine LoopVC.of (fun s w' => ∃ (m : Nat) (ys : List Int), s.2 = m ∧ s.1.2.1 + m = n + k ∧ ys ++ padS m = xs ++ padS k ∧ Sep [Fct.rest w (fun j => (Value.slice A n c).ownBlock = some j), ownB b (.slice s.1.1 s.1.2.1 s.1.2.2) s.1.2.1 ys] w') (fun s _ => s.2.toNat)
    ⟨k, xs, rfl, rfl, rfl, Sep.begin ho (fun _ e => e) fun j hj => (ho.lt j hj).2⟩ ?_
  rintro ⟨⟨A1, n1, c1⟩, _⟩ w1 ⟨m, ys, rfl, hnm, he, H⟩
  simp only at hnm H
  show ip6_padding_L12 _ A1 n1 c1 (m : Int) w1 _
  unfold ip6_padding_L12
  have hsz := (H.restOf 0 rfl).size
  refine Br.dec (fun h1 => ?_) fun h1 => Br.dec (fun h2 => ?_) fun h2 => ?_
  · have e0 : (if (257 : Int) < (m : Int) then 257 else (m : Int)) = ((min m 257 : Nat) : Int) := by split <;> omega
    rw [e0]
    have e1 : IntKind.i64.wrap (((min m 257 : Nat) : Int) - 2) = ((min m 257 - 2 : Nat) : Int) := by rw [w64 (by omega) (by omega)]; omega
    have e2 : IntKind.i64.wrap ((m : Int) - ((min m 257 : Nat) : Int)) = ((m - min m 257 : Nat) : Int) := by rw [w64 (by omega) (by omega)]; omega
    rw [e1, e2, wu8 (by omega) (by omega)]
    refine NewVC.sep H fun g1 w2 H => ?_
    have hs2 := (H.restOf 0 rfl).size
    refine appB H 1 rfl (m := 2) (ys := [1, ((min m 257 - 2 : Nat) : Int)]) (by simpa using Cells.of_blk (H.blk 2 rfl) 0) rfl (by omega) (by omega) fun A2 c2 w3 H _ => ?_
    have hs3 := (H.restOf 0 rfl).size
    refine appZ H 1 rfl (m := min m 257 - 2) rfl (by omega) (by omega) fun A3 c3 w4 H _ => ?_
    refine ⟨⟨m - min m 257, (ys ++ [1, ((min m 257 - 2 : Nat) : Int)]) ++ List.replicate (min m 257 - 2) 0, rfl, by show n1 + 2 + (min m 257 - 2) + (m - min m 257) = n + k; omega, ?_, H.take 2⟩, by show (((m - min m 257 : Nat) : Int)).toNat < ((m : Int)).toNat; omega⟩
    rw [← he, padS_step (n := m) (by omega)]
    simp
  · have : m = 1 := by omega
    subst this
    refine NewVC.sep H fun g1 w2 H => ?_
    have hs2 := (H.restOf 0 rfl).size
    refine appB H 1 rfl (m := 1) (ys := [0]) (by simpa using Cells.of_blk (H.blk 2 rfl) 0) rfl (by omega) (by omega) fun A2 c2 w3 H _ => ?_
    rw [padS_one] at he
    rw [← he, ← hnm]
    exact ⟨A2, c2, rfl, H.take 2⟩
  · have : m = 0 := by omega
    subst this
    rw [padS_zero, List.append_nil] at he
    rw [← he, ← hnm]
    exact ⟨A1, c1, rfl, H⟩
/-- What a kind of header is: of no such kind 0, with options 1, with bytes 2, of a fragment 3. -/
def sortS (k : Int) : Int := if k = 0 ∨ k = 60 then 1 else if k = 43 then 2 else if k = 44 then 3 else 0
def knownL : List Value := [.int .i64 0, .int .i64 1, .int .i64 43, .int .i64 2, .int .i64 44, .int .i64 3, .int .i64 60, .int .i64 1]
/-- ip6's table of kinds, as it was laid. -/
def Kn (w : World) : Prop := CellsAt w ⟨0, 0, none⟩ 0 knownL
theorem Kn.ext {w w' : World} (h : Kn w) (hE : Ext w w') : Kn w' := CellsAt.ext hE h
theorem sort_spec {k : Int} (hK : Kn w) : Calls Tryz.prog 51 #[.int .i64 k] w fun e w' => Ext w w' ∧ e = .returned (.int .i64 (sortS k)) := by
  refine ip6_sort_of k w _ ?_
  unfold ip6_sort_VC
  refine ⟨0, 1, 43, 2, 44, 3, 60, 1, hK, ?_⟩
  refine LoopVC.of (fun s w' => ∃ i : Nat, s = (i : Int) ∧ i ≤ 4 ∧ Ext w w' ∧ (0 < i → k ≠ 0) ∧ (1 < i → k ≠ 43) ∧ (2 < i → k ≠ 44) ∧ (3 < i → k ≠ 60)) (fun s _ => (4 - s).toNat) ⟨0, rfl, by decide, Mod.refl _ _, by omega, by omega, by omega, by omega⟩ ?_
  rintro _ w1 ⟨i, rfl, hi, hE, h0, h1, h2, h3⟩
  unfold ip6_sort_L26
  refine Br.dec (fun hlt => ?_) fun hge => ?_
  · have fin : ∀ (a b : Int), PartVC knownL (i : Int) 4 2 [.int .i64 a, .int .i64 b] → (k = a → sortS k = b) → (k ≠ a → (0 < i + 1 → k ≠ 0) ∧ (1 < i + 1 → k ≠ 43) ∧ (2 < i + 1 → k ≠ 44) ∧ (3 < i + 1 → k ≠ 60)) → ip6_sort_L26 (fun e w' => Ext w w' ∧ e = .returned (.int .i64 (sortS k))) k 0 1 43 2 44 3 60 1 (i : Int) w1 (fun s' w' => (∃ i : Nat, s' = (i : Int) ∧ i ≤ 4 ∧ Ext w w' ∧ (0 < i → k ≠ 0) ∧ (1 < i → k ≠ 43) ∧ (2 < i → k ≠ 44) ∧ (3 < i → k ≠ 60)) ∧ (4 - s').toNat < (4 - (i : Int)).toNat) := by
      intro a b hp hy hn
      unfold ip6_sort_L26
      refine Br.yes hlt ⟨a, b, hp, ?_⟩
      refine NewVC.sep (Sep.start0 w1) fun g1 w2 H => ?_
      refine Stores.sep H 1 rfl (by intro v hv; simp at hv; rcases hv with rfl | rfl <;> rfl) (Nat.le_refl 2) (splice_all rfl) fun w3 H => ?_
      refine ⟨_, H.cell 1 rfl 0 rfl, Br.dec (fun e => ⟨_, H.cell 1 rfl 1 rfl, hE.ext (H.restOf 0 rfl), by rw [hy e.symm]⟩) fun e => ?_⟩
      have hk := hn (fun x => e x.symm)
      rw [w64 (by omega) (by omega)]
      exact ⟨⟨i + 1, by omega, by omega, hE.ext (H.restOf 0 rfl), hk⟩, by omega⟩
    have key : ip6_sort_L26 (fun e w' => Ext w w' ∧ e = .returned (.int .i64 (sortS k))) k 0 1 43 2 44 3 60 1 (i : Int) w1 (fun s' w' => (∃ i : Nat, s' = (i : Int) ∧ i ≤ 4 ∧ Ext w w' ∧ (0 < i → k ≠ 0) ∧ (1 < i → k ≠ 43) ∧ (2 < i → k ≠ 44) ∧ (3 < i → k ≠ 60)) ∧ (4 - s').toNat < (4 - (i : Int)).toNat) := by
      match i, hlt, h0, h1, h2, h3, fin with
      | 0, _, _, _, _, _, fin => exact fin 0 1 ⟨by decide, by decide, rfl⟩ (fun e => by rw [e]; rfl) fun e => ⟨fun _ => e, by omega, by omega, by omega⟩
      | 1, _, h0, _, _, _, fin => exact fin 43 2 ⟨by decide, by decide, rfl⟩ (fun e => by rw [e]; rfl) fun e => ⟨fun _ => h0 (by decide), fun _ => e, by omega, by omega⟩
      | 2, _, h0, h1, _, _, fin => exact fin 44 3 ⟨by decide, by decide, rfl⟩ (fun e => by rw [e]; rfl) fun e => ⟨fun _ => h0 (by decide), fun _ => h1 (by decide), fun _ => e, by omega⟩
      | 3, _, h0, h1, h2, _, fin => exact fin 60 1 ⟨by decide, by decide, rfl⟩ (fun e => by rw [e]; rfl) fun e => ⟨fun _ => h0 (by decide), fun _ => h1 (by decide), fun _ => h2 (by decide), fun _ => e⟩
      | i + 4, h, _, _, _, _, _ => exact absurd h (by omega)
    unfold ip6_sort_L26 at key
    have := key
    cases hd : decide ((i : Int) < 4) with
    | true => rw [hd] at this; exact this
    | false => exact absurd hlt (of_decide_eq_false hd)
  · refine ⟨hE, ?_⟩
    unfold sortS
    rw [if_neg (by omega), if_neg (by omega), if_neg (by omega)]
end
end N6
end Go.Proofs.YthhgbpmihhljdaaGreatDoor
/- Rows that a call makes: bytes, options, extension headers, datagrams, all in memory of its own. -/
namespace Go.Proofs.YthhgbpmihhljdaaGreatDoor
namespace N6
open Go Go.Eng Go.RowKit
abbrev rowB (b : Nat) (s : Sl) (l : List Int) : Fct := ownB b s.val s.n l
abbrev rowO (b : Nat) (s : Sl) (rs : List OptR) : Fct := Fct.own b 127 2 s.val s.n (rs.map fun r => r.v.cells).flatten
abbrev rowE (b : Nat) (s : Sl) (rs : List ExtR) : Fct := Fct.own b 56 3 s.val s.n (rs.map fun r => r.v.cells).flatten
def optFs (b : Nat) (s : Sl) (rs : List OptR) : List Fct := rowO b s rs :: rs.map fun r => rowB b r.v.data r.data
def extF (b : Nat) (r : ExtR) : List Fct := optFs b r.v.opts r.opts ++ [rowB b r.v.data r.data]
def extFs (b : Nat) (s : Sl) (rs : List ExtR) : List Fct := rowE b s rs :: rs.flatMap (extF b)
def BFine (s : Sl) (l : List Int) : Prop := s.n ≤ 4000000 ∧ Bts l
structure OptsFine (s : Sl) (rs : List OptR) : Prop where
  len : rs.length = s.n
  small : s.n ≤ 4000000
  each : ∀ r ∈ rs, BFine r.v.data r.data
structure ExtsFine (s : Sl) (rs : List ExtR) : Prop where
  len : rs.length = s.n
  small : s.n ≤ 4000000
  opts : ∀ r ∈ rs, OptsFine r.v.opts r.opts
  data : ∀ r ∈ rs, BFine r.v.data r.data
section
theorem own_le {w : World} {b e size n : Nat} {s : Sl} {xs : List Value} (h : w.ownsRow b e size s.val n xs) : n ≤ s.k := by
  obtain ⟨A, c, hv, hc, _⟩ := own_form h
  have hv : Value.slice s.A s.n s.k = .slice A n c := hv
  injection hv with _ _ h3
  omega
variable {w : World} {b : Nat} {s : Sl}
theorem bytesAt_of {l : List Int} (h : (rowB b s l).φ w) (hf : BFine s l) : BytesAt w s l :=
  ⟨by have := h.1; simpa using this, own_le h, hf.1, hf.2, own_cells (A := s.A) (c := s.k) h⟩
theorem optsAt_of {rs : List OptR} (h : ∀ f ∈ optFs b s rs, f.φ w) (hf : OptsFine s rs) : OptsAt w s rs := by
  have h0 := h (rowO b s rs) (by simp [optFs])
  refine ⟨hf.len, own_le h0, hf.small, Recs.of_cells (by decide) (fun r hr => ?_) (own_cells (A := s.A) (c := s.k) h0), fun r hr => bytesAt_of (b := b) (h _ ?_) (hf.each r hr)⟩
  · obtain ⟨x, _, rfl⟩ := List.mem_map.1 hr; rfl
  · exact List.mem_cons_of_mem _ (List.mem_map_of_mem (f := fun r => rowB b r.v.data r.data) hr)
theorem extsAt_of {rs : List ExtR} (h : ∀ f ∈ extFs b s rs, f.φ w) (hf : ExtsFine s rs) : ExtsAt w s rs := by
  have h0 := h (rowE b s rs) (by simp [extFs])
  have h1 : ∀ r ∈ rs, ∀ f ∈ extF b r, f.φ w := fun r hr f hf => h f (List.mem_cons_of_mem _ (List.mem_flatMap.2 ⟨r, hr, hf⟩))
  refine ⟨hf.len, own_le h0, hf.small, Recs.of_cells (by decide) (fun r hr => ?_) (own_cells (A := s.A) (c := s.k) h0), fun r hr => optsAt_of (b := b) (fun f hf => h1 r hr f (List.mem_append_left _ hf)) (hf.opts r hr),
    fun r hr => bytesAt_of (b := b) (h1 r hr _ (by simp [extF])) (hf.data r hr)⟩
  obtain ⟨x, _, rfl⟩ := List.mem_map.1 hr; rfl
theorem optFs_less {b' : Nat} {rs : List OptR} (h : b' ≤ b) : AllLe (optFs b s rs) (optFs b' s rs) :=
  .cons (own_less h).1 (own_less h).2 (AllLe.map rs fun _ _ => own_less h)
theorem extF_less {b' : Nat} {r : ExtR} (h : b' ≤ b) : AllLe (extF b r) (extF b' r) := (optFs_less h).append (.cons (own_less h).1 (own_less h).2 .nil)
theorem extFs_less {b' : Nat} {rs : List ExtR} (h : b' ≤ b) : AllLe (extFs b s rs) (extFs b' s rs) :=
  .cons (own_less h).1 (own_less h).2 (AllLe.flatMap rs fun _ _ => extF_less h)
end
end N6
end Go.Proofs.YthhgbpmihhljdaaGreatDoor
/- Whether two things hold the same: bytes, options, headers, datagrams. -/
namespace Go.Eng
open Go Go.RowKit
theorem IdxVC.recD {w : World} {A : Option Addr} {size n : Nat} {rs : List (List Value)} {i : Nat} {cs : List Value} {F : Addr → Prop} (S : World → Prop) (hw : S w) (hS : ∀ w', S w' → Recs w' A size rs) (hl : rs.length = n) (hi : rs[i]? = some cs)
    (hF : ∀ a, (∀ w', S w' → CellsAt w' a 0 cs) → F a) : IdxVC A n size (i : Int) F := by
  have hlt := (List.getElem?_eq_some_iff.1 hi).1
  obtain ⟨a, ha, _⟩ := hS w hw i cs hi
  refine ⟨a, ha, by omega, by omega, hF _ fun w' hw' => ?_⟩
  obtain ⟨b, hb, hc⟩ := hS w' hw' i cs hi
  rw [ha] at hb; cases hb
  rw [Int.toNat_natCast]; exact hc
theorem no_iff {P : Prop} (h : ¬ P) : (false = true) ↔ P := ⟨(fun x => by cases x), fun x => absurd x h⟩
theorem yes_iff {P : Prop} (h : P) : (true = true) ↔ P := ⟨fun _ => h, fun _ => rfl⟩
theorem ipv_beq {a b : IPV} : IPV.beq a b = true ↔ a = b := by
  cases a; cases b
  unfold IPV.beq
  simp only [Bool.and_eq_true, decide_eq_true_eq, IPV.mk.injEq, and_true]
theorem frag_beq {a b : FragV} : FragV.beq a b = true ↔ a = b := by
  cases a; cases b
  unfold FragV.beq
  simp only [Bool.and_eq_true, decide_eq_true_eq, beq_iff_eq, FragV.mk.injEq, and_true]
end Go.Eng
namespace Go.Proofs.YthhgbpmihhljdaaGreatDoor
namespace N6
open Go.Eng Go.RowKit
/-- A call that tells whether. -/
def Tells (w : World) (P : Prop) (e : Ending) (w' : World) : Prop := ∃ b : Bool, e = .returned (.bool b) ∧ (b = true ↔ P) ∧ Ext w w'
section
variable {w : World} {s t : Sl} {xs ys : List Int}
theorem Tells.no {w' : World} {P : Prop} (hE : Ext w w') (h : ¬ P) : Tells w P (.returned (.bool false)) w' := ⟨false, rfl, no_iff h, hE⟩
theorem Tells.yes {w' : World} {P : Prop} (hE : Ext w w') (h : P) : Tells w P (.returned (.bool true)) w' := ⟨true, rfl, yes_iff h, hE⟩
theorem OptsAt.idxD {S : World → Prop} {rs : List OptR} (hw : S w) (hS : ∀ w', S w' → OptsAt w' s rs) {i : Nat} {r : OptR} (hi : rs[i]? = some r) {F : Addr → Prop} (hF : ∀ a, (∀ w', S w' → CellsAt w' a 0 r.v.cells) → F a) : IdxVC s.A s.n 2 (i : Int) F :=
  IdxVC.recD S hw (fun w' h => (hS w' h).recs) (by simpa using (hS w hw).len) (cs := r.v.cells) (by rw [List.getElem?_map, hi]; rfl) hF
theorem ExtsAt.idxD {S : World → Prop} {rs : List ExtR} (hw : S w) (hS : ∀ w', S w' → ExtsAt w' s rs) {i : Nat} {r : ExtR} (hi : rs[i]? = some r) {F : Addr → Prop} (hF : ∀ a, (∀ w', S w' → CellsAt w' a 0 r.v.cells) → F a) : IdxVC s.A s.n 3 (i : Int) F :=
  IdxVC.recD S hw (fun w' h => (hS w' h).recs) (by simpa using (hS w hw).len) (cs := r.v.cells) (by rw [List.getElem?_map, hi]; rfl) hF
theorem c0 {v : Value} {a : Addr} {r : List Value} (h : CellsAt w a 0 (v :: r)) : w.cell? a = some v := by simpa [add_zero] using h.1
theorem c1 {u v : Value} {a : Addr} {r : List Value} (h : CellsAt w a 0 (u :: v :: r)) : w.cell? (a.add 1) = some v := h.2.1
theorem c2 {u v x : Value} {a : Addr} {r : List Value} (h : CellsAt w a 0 (u :: v :: x :: r)) : w.cell? (a.add 2) = some x := h.2.2.1
end
end N6
end Go.Proofs.YthhgbpmihhljdaaGreatDoor
/- Plain laws of bit fields: no program in sight. -/
namespace Go.Eng
open Go
def psum (ws : List Int) : Int := ws.foldl (· + ·) 0
theorem psum_snoc (l : List Int) (a : Int) : psum (l ++ [a]) = psum l + a := by simp [psum]
theorem foldl_add (l : List Int) : ∀ a : Int, l.foldl (· + ·) a = a + l.foldl (· + ·) 0 := by
  induction l with
  | nil => intro a; simp
  | cons b l ih => intro a; simp only [List.foldl_cons]; rw [ih (a + b), ih (0 + b)]; omega
theorem psum_cons (a : Int) (l : List Int) : psum (a :: l) = a + psum l := by
  simp only [psum, List.foldl_cons]; rw [foldl_add]; omega
theorem psum_append (a b : List Int) : psum (a ++ b) = psum a + psum b := by
  induction a with
  | nil => simp [psum]
  | cons x a ih => rw [List.cons_append, psum_cons, psum_cons, ih]; omega
/-- Each width may be. -/
def W32 (ws : List Int) : Prop := ∀ x ∈ ws, 1 ≤ x ∧ x ≤ 32
def widthsOk (ws : List Int) : Prop := ws.length ≤ 64 ∧ W32 ws ∧ psum ws % 8 = 0
theorem W32.take {ws : List Int} (h : W32 ws) (n : Nat) : W32 (ws.take n) := fun x hx => h x (List.mem_of_mem_take hx)
theorem psum_bound {ws : List Int} (h : W32 ws) : 0 ≤ psum ws ∧ psum ws ≤ 32 * ws.length := by
  induction ws with
  | nil => simp [psum]
  | cons a l ih =>
    have h1 := ih fun x hx => h x (by simp [hx])
    have h2 := h a (by simp)
    rw [psum_cons]
    simp only [List.length_cons]
    omega
theorem psum_take_le {ws : List Int} (h : W32 ws) (i : Nat) : psum (ws.take i) ≤ psum ws := by
  have e : psum (ws.take i ++ ws.drop i) = psum (ws.take i) + psum (ws.drop i) := psum_append _ _
  rw [List.take_append_drop] at e
  have := (psum_bound (ws := ws.drop i) fun x hx => h x (List.mem_of_mem_drop hx)).1
  omega
theorem take_snoc (l : List Int) (k : Nat) (h : k < l.length) : l.take (k + 1) = l.take k ++ [l.getD k 0] := by
  rw [List.take_succ_eq_append_getElem h]; simp [h]

/-- The i-th bit, the highest of the first byte being number 0. -/
def bitAt (bs : List Int) (i : Nat) : Int := (bs.getD (i / 8) 0 / 2 ^ (7 - i % 8)) % 2
theorem bitAt_01 (bs : List Int) (i : Nat) : 0 ≤ bitAt bs i ∧ bitAt bs i < 2 := by unfold bitAt; omega
/-- The number of n bits from p on. -/
def fieldV (f : Nat → Int) (p : Nat) : Nat → Int
  | 0 => 0
  | n + 1 => 2 * fieldV f p n + f (p + n)
def fieldsV (f : Nat → Int) : Nat → List Int → List Int
  | _, [] => []
  | p, w :: r => fieldV f p w.toNat :: fieldsV f (p + w.toNat) r
theorem fieldV_bound {f : Nat → Int} (hf : ∀ i, 0 ≤ f i ∧ f i < 2) (p n : Nat) : 0 ≤ fieldV f p n ∧ fieldV f p n < 2 ^ n := by
  induction n with
  | zero => simp [fieldV]
  | succ n ih =>
    have := hf (p + n)
    rw [Int.pow_succ]
    simp only [fieldV]
    omega
theorem pow2_32 {n : Nat} (h : n ≤ 32) : (2 : Int) ^ n ≤ 4294967296 := by
  have : (2 : Int) ^ n ≤ 2 ^ 32 := by exact_mod_cast Nat.pow_le_pow_right (by decide) h
  have e : (2 : Int) ^ 32 = 4294967296 := by decide
  omega
theorem fieldsV_snoc (f : Nat → Int) (a : Int) : ∀ (l : List Int) (p : Nat), W32 l → fieldsV f p (l ++ [a]) = fieldsV f p l ++ [fieldV f (p + (psum l).toNat) a.toNat]
  | [], p, _ => by simp [fieldsV, psum]
  | w :: r, p, h => by
    have hw := h w (by simp)
    have hr : W32 r := fun x hx => h x (by simp [hx])
    have hb := psum_bound hr
    simp only [List.cons_append, fieldsV]
    rw [fieldsV_snoc f a r _ hr, psum_cons]
    congr 3
    rw [show (w + psum r).toNat = w.toNat + (psum r).toNat by omega, Nat.add_assoc]
theorem fieldV_congr {f g : Nat → Int} (p q : Nat) : ∀ n, (∀ i, i < n → f (p + i) = g (q + i)) → fieldV f p n = fieldV g q n
  | 0, _ => rfl
  | n + 1, h => by simp only [fieldV]; rw [fieldV_congr p q n (fun i hi => h i (by omega)), h n (by omega)]

/-! ### The program's own writing of a bit -/
theorem and1_u8 {y : Int} (h0 : 0 ≤ y) (h1 : y < 256) : bitv .and .u8 y 1 = y % 2 := by
  obtain ⟨a, rfl⟩ := Int.eq_ofNat_of_zero_le h0
  unfold bitv
  simp only
  have e : ((BitVec.ofInt IntKind.u8.bits (a : Int) &&& BitVec.ofInt IntKind.u8.bits 1).toNat : Int) = ((a % 2 : Nat) : Int) := by
    rw [BitVec.toNat_and]
    have : (BitVec.ofInt IntKind.u8.bits 1).toNat = 1 := by decide
    rw [this, Nat.and_one_is_mod]
    simp [IntKind.bits]
  rw [e]
  rw [show ((a % 2 : Nat) : Int) = (a : Int) % 2 by omega]
  exact wu8 (by omega) (by omega)
/-- One bit, as the program reads it. -/
theorem bit_read {x : Int} (h0 : 0 ≤ x) (h1 : x < 256) (m : Nat) :
    bitv .and .u8 (Int.fdiv x (2 ^ (min (IntKind.u64.wrap (7 - IntKind.u64.wrap (Int.tmod (m : Int) 8))).toNat 8))) 1 = (x / 2 ^ (7 - m % 8)) % 2 := by
  have e1 : Int.tmod (m : Int) 8 = ((m % 8 : Nat) : Int) := by rw [Int.tmod_eq_emod_of_nonneg (by omega)]; omega
  rw [e1, wu64 (n := ((m % 8 : Nat) : Int)) (by omega) (by omega), wu64 (n := 7 - ((m % 8 : Nat) : Int)) (by omega) (by omega)]
  have e2 : min (7 - ((m % 8 : Nat) : Int)).toNat 8 = 7 - m % 8 := by omega
  rw [e2, Int.fdiv_eq_ediv_of_nonneg _ (by exact Int.pow_nonneg (by decide))]
  have hp : (1 : Int) ≤ 2 ^ (7 - m % 8) := by
    have : (1 : Nat) ≤ 2 ^ (7 - m % 8) := Nat.one_le_two_pow
    exact_mod_cast this
  have hd0 : 0 ≤ x / 2 ^ (7 - m % 8) := Int.ediv_nonneg h0 (by omega)
  have hd1 : x / 2 ^ (7 - m % 8) ≤ x := Int.ediv_le_self _ h0
  exact and1_u8 hd0 (by omega)
/-- One bit joins, as the program does it. -/
theorem bit_join {v b : Int} (h0 : 0 ≤ v) (h1 : v < 4294967296) (hb0 : 0 ≤ b) (hb1 : b < 2) : bitv .or .i64 (IntKind.i64.wrap (v * 2)) (IntKind.i64.wrap b) = 2 * v + b := by
  rw [w64 (n := v * 2) (by omega) (by omega), w64 (n := b) (by omega) (by omega)]
  unfold bitv
  simp only
  rw [or_low (v * 2) b 1 (by omega) hb0 (by omega) (by omega) IntKind.i64.bits (by show _ < (2 : Int) ^ 64; omega)]
  rw [w64 (by omega) (by omega)]; omega
end Go.Eng
