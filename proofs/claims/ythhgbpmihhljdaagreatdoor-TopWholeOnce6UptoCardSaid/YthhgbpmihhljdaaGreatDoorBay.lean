/- Chapter 11 by value: what one datagram in the making holds, and what laying a piece in makes of it. Of no program. -/
import Derived.Test.YthhgbpmihhljdaaGreatDoorBap
import Derived.Test.YthhgbpmihhljdaaGreatDoorBax
namespace Go.Eng
open Go Go.RowKit
structure HolS where
  max : Int
  buf : List Int
  gaps : List (Int × Int)
  fin : Int
  seen : List PcV
/-- Gaps, rising, apart, within. -/
def Gs : Int → Int → List (Int × Int) → Prop
  | _, _, [] => True
  | lo, hi, g :: r => lo ≤ g.1 ∧ g.1 < g.2 ∧ g.2 ≤ hi ∧ Gs (g.2 + 1) hi r
def Miss (gs : List (Int × Int)) (p : Int) : Prop := ∃ g ∈ gs, g.1 ≤ p ∧ p < g.2
def gLo (off : Int) (g : Int × Int) : Int := if g.1 < off then off else g.1
def gHi (to : Int) (g : Int × Int) : Int := if to < g.2 then to else g.2
def cutG (off to : Int) (g : Int × Int) : List (Int × Int) :=
  if to ≤ g.1 then [g] else if g.2 ≤ off then [g] else (if g.1 < gLo off g then [(g.1, gLo off g)] else []) ++ (if gHi to g < g.2 then [(gHi to g, g.2)] else [])
def new1 (off to : Int) (g : Int × Int) : Int := if to ≤ g.1 then 0 else if g.2 ≤ off then 0 else gHi to g - gLo off g
def newN (off to : Int) : List (Int × Int) → Int
  | [] => 0
  | g :: r => new1 off to g + newN off to r
def lay1 (b : List Int) (lo : Nat) (d : List Int) : List Int := b.take lo ++ (d ++ b.drop (lo + d.length))
def buf1 (off to : Int) (d b : List Int) (g : Int × Int) : List Int :=
  if to ≤ g.1 then b else if g.2 ≤ off then b else lay1 b (gLo off g).toNat (bpart d (gLo off g - off).toNat (gHi to g - gLo off g).toNat)
def bufN (off to : Int) (d : List Int) : List Int → List (Int × Int) → List Int
  | b, [] => b
  | b, g :: r => bufN off to d (buf1 off to d b g) r
def topS (gs : List (Int × Int)) (max : Int) : Int :=
  match gs.getLast? with
  | none => max
  | some g => if g.2 = max then g.1 else max
def endG (gs : List (Int × Int)) (max to : Int) : List (Int × Int) :=
  match gs.getLast? with
  | none => gs
  | some g => if g.2 = max then (if to ≤ g.1 then gs.dropLast else gs.dropLast ++ [(g.1, to)]) else gs
def refusedS (s : HolS) (off : Int) (n : Nat) (more : Bool) : Int :=
  if (65535 : Int) < n then 2
  else if off < 0 ∨ off % 8 ≠ 0 ∨ (more = true ∧ (n : Int) % 8 ≠ 0) then 110
  else if n = 0 then 111
  else if s.max < off ∨ s.max < off + n then 112
  else if 0 ≤ s.fin ∧ more = false ∧ off + n ≠ s.fin then 114
  else if 0 ≤ s.fin ∧ more = true ∧ s.fin < off + n then 113
  else if s.fin < 0 ∧ more = false ∧ off + n < topS s.gaps s.max then 114
  else 0
def zpad (b : List Int) (to : Nat) : List Int := b ++ List.replicate (to - b.length) 0
def addSeen (l : List PcV) (p : PcV) : List PcV := if l.any (PcV.beq p) then l else l ++ [p]
def putS (s : HolS) (off : Int) (d : List Int) (more : Bool) : HolS :=
  ⟨s.max, bufN off (off + d.length) d (zpad s.buf (off + d.length).toNat) s.gaps,
    if more = false ∧ s.fin < 0 then endG (s.gaps.flatMap (cutG off (off + d.length))) s.max (off + d.length) else s.gaps.flatMap (cutG off (off + d.length)),
    if more = false ∧ s.fin < 0 then off + d.length else s.fin,
    addSeen s.seen ⟨off, d.length, more⟩⟩
def fitS (s : HolS) (off : Int) (d : List Int) (more : Bool) : FitV :=
  ⟨newN off (off + d.length) s.gaps, d.length - newN off (off + d.length) s.gaps,
    s.seen.any (PcV.beq ⟨off, d.length, more⟩) && decide (bpart (putS s off d more).buf off.toNat d.length = d)⟩
structure HolOk (s : HolS) : Prop where
  m1 : 1 ≤ s.max
  m2 : s.max ≤ 65535
  bts : Bts s.buf
  blen : (s.buf.length : Int) ≤ s.max
  fin : s.fin = -1 ∨ (0 ≤ s.fin ∧ s.fin ≤ s.max ∧ s.fin ≤ s.buf.length)
  gs : Gs 0 (if s.fin < 0 then s.max else s.fin) s.gaps
def HolS.start (max : Int) : HolS := ⟨max, [], [(0, max)], -1, []⟩
theorem HolOk.start {max : Int} (h1 : 1 ≤ max) (h2 : max ≤ 65535) : HolOk (HolS.start max) :=
  ⟨h1, h2, fun _ h => (by cases h), by show ((0 : Nat) : Int) ≤ max; omega, .inl rfl, ⟨Int.le_refl _, by show (0 : Int) < max; omega, Int.le_refl _, trivial⟩⟩
section
variable {lo hi off to : Int} {gs : List (Int × Int)} {g : Int × Int}
theorem Gs.lower {lo' : Int} (h : Gs lo hi gs) (hl : lo' ≤ lo) : Gs lo' hi gs := by
  cases gs with
  | nil => trivial
  | cons g r => exact ⟨Int.le_trans hl h.1, h.2⟩
theorem Gs.upper {hi' : Int} : ∀ {gs : List (Int × Int)} {lo : Int}, Gs lo hi gs → hi ≤ hi' → Gs lo hi' gs
  | [], _, _, _ => trivial
  | _ :: _, _, h, hh => ⟨h.1, h.2.1, Int.le_trans h.2.2.1 hh, h.2.2.2.upper hh⟩
theorem Gs.mem : ∀ {gs : List (Int × Int)} {lo : Int}, Gs lo hi gs → g ∈ gs → lo ≤ g.1 ∧ g.1 < g.2 ∧ g.2 ≤ hi
  | [], _, _, h => by cases h
  | x :: r, lo, h, hg => by
    rcases List.mem_cons.1 hg with rfl | hg
    · exact ⟨h.1, h.2.1, h.2.2.1⟩
    · have := h.2.2.2.mem hg
      have := h.2.1
      have := h.1
      omega
theorem Gs.miss (h : Gs lo hi gs) {p : Int} (hp : Miss gs p) : lo ≤ p ∧ p < hi := by
  obtain ⟨g, hg, h1, h2⟩ := hp
  have := h.mem hg
  omega
theorem Gs.app : ∀ {a b : List (Int × Int)} {lo mid : Int}, Gs lo mid a → Gs (mid + 1) hi b → mid ≤ hi → lo ≤ mid + 1 → Gs lo hi (a ++ b)
  | [], b, lo, mid, _, hb, _, hl => hb.lower hl
  | g :: r, b, lo, mid, ha, hb, hm, _ => ⟨ha.1, ha.2.1, Int.le_trans ha.2.2.1 hm, ha.2.2.2.app hb hm (by have := ha.2.2.1; omega)⟩
theorem Gs.len : ∀ {gs : List (Int × Int)} {lo : Int}, Gs lo hi gs → gs = [] ∨ (gs.length : Int) ≤ hi - lo
  | [], _, _ => .inl rfl
  | g :: r, lo, h => by
    refine .inr ?_
    have h1 := h.1
    have h2 := h.2.1
    have h3 := h.2.2.1
    rcases h.2.2.2.len with rfl | h4
    · simp; omega
    · simp only [List.length_cons]; omega
theorem cut_gs (h0 : off < to) (h1 : lo ≤ g.1) (h2 : g.1 < g.2) (_h3 : g.2 ≤ hi) : Gs lo g.2 (cutG off to g) := by
  unfold cutG gLo gHi
  by_cases c1 : to ≤ g.1
  · rw [if_pos c1]; exact ⟨h1, h2, Int.le_refl _, trivial⟩
  rw [if_neg c1]
  by_cases c2 : g.2 ≤ off
  · rw [if_pos c2]; exact ⟨h1, h2, Int.le_refl _, trivial⟩
  rw [if_neg c2]
  by_cases c3 : g.1 < off
  · rw [if_pos c3, if_pos c3]
    by_cases c4 : to < g.2
    · rw [if_pos c4, if_pos c4]; exact ⟨h1, c3, by show off ≤ g.2; omega, by show off + 1 ≤ to; omega, c4, Int.le_refl _, trivial⟩
    · rw [if_neg c4, if_neg (by omega)]; exact ⟨h1, c3, by show off ≤ g.2; omega, trivial⟩
  · rw [if_neg c3, if_neg (by omega)]
    by_cases c4 : to < g.2
    · rw [if_pos c4, if_pos c4]; exact ⟨by show lo ≤ to; omega, c4, Int.le_refl _, trivial⟩
    · rw [if_neg c4, if_neg (by omega)]; trivial
theorem cut_miss {p : Int} : Miss (cutG off to g) p ↔ (g.1 ≤ p ∧ p < g.2) ∧ ¬ (off ≤ p ∧ p < to) ∨ (to ≤ g.1 ∧ g.1 ≤ p ∧ p < g.2) ∨ (g.2 ≤ off ∧ g.1 ≤ p ∧ p < g.2) := by
  unfold Miss cutG gLo gHi
  by_cases c1 : to ≤ g.1
  · rw [if_pos c1]; simp; omega
  rw [if_neg c1]
  by_cases c2 : g.2 ≤ off
  · rw [if_pos c2]; simp; omega
  rw [if_neg c2]
  by_cases c3 : g.1 < off
  · rw [if_pos c3, if_pos c3]
    by_cases c4 : to < g.2
    · rw [if_pos c4, if_pos c4]; simp; omega
    · rw [if_neg c4, if_neg (by omega)]; simp; omega
  · rw [if_neg c3, if_neg (by omega)]
    by_cases c4 : to < g.2
    · rw [if_pos c4, if_pos c4]; simp; omega
    · rw [if_neg c4, if_neg (by omega)]; simp; omega
theorem cuts_gs (h0 : off < to) : ∀ {gs : List (Int × Int)} {lo : Int}, Gs lo hi gs → Gs lo hi (gs.flatMap (cutG off to))
  | [], _, _ => trivial
  | g :: r, lo, h => by
    rw [List.flatMap_cons]
    exact (cut_gs h0 h.1 h.2.1 h.2.2.1).app (cuts_gs h0 h.2.2.2) h.2.2.1 (by have := h.1; have := h.2.1; omega)
theorem cuts_miss {p : Int} (_h0 : off < to) : Miss (gs.flatMap (cutG off to)) p ↔ Miss gs p ∧ ¬ (off ≤ p ∧ p < to) := by
  have h1 : Miss (gs.flatMap (cutG off to)) p ↔ ∃ g ∈ gs, Miss (cutG off to g) p := by
    unfold Miss
    constructor
    · rintro ⟨x, hx, h⟩
      obtain ⟨g, hg, hx⟩ := List.mem_flatMap.1 hx
      exact ⟨g, hg, x, hx, h⟩
    · rintro ⟨g, hg, x, hx, h⟩
      exact ⟨x, List.mem_flatMap.2 ⟨g, hg, hx⟩, h⟩
  rw [h1]
  constructor
  · rintro ⟨g, hg, h⟩
    have := cut_miss.1 h
    exact ⟨⟨g, hg, by omega⟩, by omega⟩
  · rintro ⟨⟨g, hg, h⟩, hn⟩
    exact ⟨g, hg, cut_miss.2 (.inl ⟨h, hn⟩)⟩
theorem newN_le (h0 : off < to) : ∀ {gs : List (Int × Int)} {lo : Int}, Gs lo hi gs → 0 ≤ newN off to gs ∧ newN off to gs ≤ to - off ∧ (off ≤ lo → newN off to gs ≤ to - lo ∨ newN off to gs = 0)
  | [], lo, _ => ⟨Int.le_refl _, by show (0 : Int) ≤ _; omega, fun _ => .inr rfl⟩
  | g :: r, lo, h => by
    have ih := newN_le h0 h.2.2.2
    have h1 := h.1
    have h2 := h.2.1
    simp only [newN]
    unfold new1 gLo gHi
    by_cases c1 : to ≤ g.1
    · rw [if_pos c1]
      have := ih.2.2
      omega
    rw [if_neg c1]
    by_cases c2 : g.2 ≤ off
    · rw [if_pos c2]; omega
    rw [if_neg c2]
    have := ih.2.2 (by omega)
    by_cases c3 : g.1 < off <;> by_cases c4 : to < g.2 <;> simp only [c3, c4, if_true, if_false] <;> omega
theorem newN_behind : ∀ {gs : List (Int × Int)}, (∀ g ∈ gs, to ≤ g.1) → newN off to gs = 0
  | [], _ => rfl
  | g :: r, h => by
    simp only [newN]
    rw [newN_behind fun x hx => h x (by simp [hx])]
    unfold new1
    rw [if_pos (h g (by simp))]; rfl
theorem newN_all (h0 : off < to) : ∀ {gs : List (Int × Int)} {lo : Int}, Gs lo hi gs → (∀ p, off ≤ p → p < to → Miss gs p) → newN off to gs = to - off
  | [], _, _, h => by obtain ⟨g, hg, _⟩ := h off (by omega) h0; cases hg
  | g :: r, lo, hG, h => by
    have h2 := hG.2.1
    simp only [newN]
    by_cases c2 : g.2 ≤ off
    · rw [newN_all h0 hG.2.2.2 fun p h3 h4 => by
        obtain ⟨x, hx, h5⟩ := h p h3 h4
        rcases List.mem_cons.1 hx with rfl | hx
        · omega
        · exact ⟨x, hx, h5⟩]
      unfold new1
      rw [if_neg (by omega), if_pos c2]; omega
    · have c1 : g.1 ≤ off := by
        obtain ⟨x, hx, h5⟩ := h off (by omega) h0
        rcases List.mem_cons.1 hx with rfl | hx
        · omega
        · have := hG.2.2.2.mem hx; omega
      have c3 : to ≤ g.2 := Classical.byContradiction fun hn => by
        obtain ⟨x, hx, h5⟩ := h g.2 (by omega) (by omega)
        rcases List.mem_cons.1 hx with rfl | hx
        · omega
        · have := hG.2.2.2.mem hx; omega
      rw [newN_behind fun x hx => by have := hG.2.2.2.mem hx; omega]
      unfold new1 gLo gHi
      rw [if_neg (by omega), if_neg c2]
      split <;> split <;> omega
end
/-! ### The bytes -/
theorem lay1_len {b d : List Int} {lo : Nat} (h : lo + d.length ≤ b.length) : (lay1 b lo d).length = b.length := by
  unfold lay1; simp; omega
theorem lay1_get {b d : List Int} {lo : Nat} (h : lo + d.length ≤ b.length) (p : Nat) : (lay1 b lo d)[p]? = if lo ≤ p ∧ p < lo + d.length then d[p - lo]? else b[p]? := by
  unfold lay1
  rw [List.getElem?_append]
  have hl : (b.take lo).length = lo := by simp; omega
  rw [hl, List.getElem?_append, List.getElem?_drop]
  by_cases c1 : p < lo
  · rw [if_pos c1, if_neg (by omega), List.getElem?_take, if_pos c1]
  · rw [if_neg c1]
    by_cases c2 : p - lo < d.length
    · rw [if_pos c2, if_pos (by omega)]
    · rw [if_neg c2, if_neg (by omega)]; congr 1; omega
section
variable {off to hi : Int} {d : List Int}
theorem buf1_len {b : List Int} {g : Int × Int} (h0 : 0 ≤ off) (h1 : off + d.length = to) (hb : to ≤ b.length) (h2 : 0 ≤ g.1) (h3 : g.1 < g.2) : (buf1 off to d b g).length = b.length := by
  unfold buf1 gLo gHi
  split
  · rfl
  · split
    · rfl
    · refine lay1_len ?_
      have hle : (bpart d ((if g.1 < off then off else g.1) - off).toNat ((if to < g.2 then to else g.2) - if g.1 < off then off else g.1).toNat).length ≤ ((if to < g.2 then to else g.2) - if g.1 < off then off else g.1).toNat := by
        unfold bpart; rw [List.length_take]; omega
      refine Nat.le_trans (Nat.add_le_add_left hle _) ?_
      split <;> split <;> omega
theorem buf1_get {b : List Int} {g : Int × Int} (h0 : 0 ≤ off) (h1 : off + d.length = to) (hb : to ≤ b.length) (h2 : 0 ≤ g.1) (h3 : g.1 < g.2) (p : Nat) :
    (buf1 off to d b g)[p]? = if g.1 ≤ p ∧ p < g.2 ∧ off ≤ p ∧ p < to then d[p - off.toNat]? else b[p]? := by
  unfold buf1
  by_cases c1 : to ≤ g.1
  · rw [if_pos c1, if_neg (by omega)]
  rw [if_neg c1]
  by_cases c2 : g.2 ≤ off
  · rw [if_pos c2, if_neg (by omega)]
  rw [if_neg c2]
  have e1 : off ≤ gLo off g ∧ g.1 ≤ gLo off g ∧ (gLo off g = off ∨ gLo off g = g.1) := by unfold gLo; split <;> omega
  have e2 : gHi to g ≤ to ∧ gHi to g ≤ g.2 ∧ (gHi to g = to ∨ gHi to g = g.2) := by unfold gHi; split <;> omega
  have hl : (bpart d (gLo off g - off).toNat (gHi to g - gLo off g).toNat).length = (gHi to g - gLo off g).toNat := bpart_len (by omega)
  rw [lay1_get (by rw [hl]; omega), hl]
  by_cases c3 : (gLo off g).toNat ≤ p ∧ p < (gLo off g).toNat + (gHi to g - gLo off g).toNat
  · rw [if_pos c3, if_pos (by omega)]
    unfold bpart
    rw [List.getElem?_take, if_pos (by omega), List.getElem?_drop]
    congr 1; omega
  · rw [if_neg c3, if_neg (by omega)]
theorem bufN_len (h0 : 0 ≤ off) (h1 : off + d.length = to) : ∀ {gs : List (Int × Int)} {b : List Int}, to ≤ b.length → (∀ g ∈ gs, 0 ≤ g.1 ∧ g.1 < g.2) → (bufN off to d b gs).length = b.length
  | [], _, _, _ => rfl
  | g :: r, b, hb, hg => by
    have h2 := hg g (by simp)
    have hl := buf1_len (b := b) h0 h1 hb h2.1 h2.2
    simp only [bufN]
    rw [bufN_len h0 h1 (by rw [hl]; exact hb) fun x hx => hg x (by simp [hx]), hl]
theorem bufN_get (h0 : 0 ≤ off) (h1 : off + d.length = to) (p : Nat) : ∀ {gs : List (Int × Int)} {b : List Int}, to ≤ b.length → (∀ g ∈ gs, 0 ≤ g.1 ∧ g.1 < g.2) →
    ((Miss gs p ∧ off ≤ p ∧ p < to) → (bufN off to d b gs)[p]? = d[p - off.toNat]?) ∧ (¬ (Miss gs p ∧ off ≤ p ∧ p < to) → (bufN off to d b gs)[p]? = b[p]?)
  | [], _, _, _ => ⟨fun ⟨⟨g, hg, _⟩, _⟩ => (by cases hg), fun _ => rfl⟩
  | g :: r, b, hb, hg => by
    have h2 := hg g (by simp)
    have hl := buf1_len (b := b) h0 h1 hb h2.1 h2.2
    have ih := bufN_get h0 h1 p (gs := r) (b := buf1 off to d b g) (by rw [hl]; exact hb) fun x hx => hg x (by simp [hx])
    have hb1 := buf1_get (b := b) h0 h1 hb h2.1 h2.2 p
    simp only [bufN]
    by_cases hm : Miss r p ∧ off ≤ p ∧ p < to
    · refine ⟨fun _ => ih.1 hm, fun hn => absurd ⟨?_, hm.2⟩ hn⟩
      obtain ⟨x, hx, h3⟩ := hm.1
      exact ⟨x, by simp [hx], h3⟩
    · rw [ih.2 hm, hb1]
      by_cases hp : g.1 ≤ p ∧ p < g.2 ∧ off ≤ p ∧ p < to
      · rw [if_pos hp]
        exact ⟨fun _ => rfl, fun hn => absurd ⟨⟨g, by simp, by omega⟩, by omega⟩ hn⟩
      · rw [if_neg hp]
        refine ⟨fun ⟨⟨x, hx, h3⟩, h4⟩ => ?_, fun _ => rfl⟩
        rcases List.mem_cons.1 hx with rfl | hx
        · exact absurd ⟨h3.1, h3.2, h4⟩ hp
        · exact absurd ⟨⟨x, hx, h3⟩, h4⟩ hm
end
theorem zpad_len (b : List Int) (to : Nat) : (zpad b to).length = max b.length to := by unfold zpad; simp; omega
end Go.Eng
/- Chapter 11 by value, on: what is kept when a piece is laid in. Of no program. -/
namespace Go.Eng
open Go Go.RowKit
section
variable {s : HolS} {off to hi : Int} {d : List Int} {more : Bool} {gs : List (Int × Int)}
theorem gs_all {lo : Int} (h : Gs lo hi gs) (h0 : 0 ≤ lo) : ∀ g ∈ gs, 0 ≤ g.1 ∧ g.1 < g.2 := fun g hg => by have := h.mem hg; omega
theorem refused_ok (h : refusedS s off d.length more = 0) : 0 ≤ off ∧ off % 8 = 0 ∧ 0 < d.length ∧ off + d.length ≤ s.max ∧ (more = true → (d.length : Int) % 8 = 0) ∧
    (0 ≤ s.fin → more = false → off + d.length = s.fin) ∧ (0 ≤ s.fin → more = true → off + d.length ≤ s.fin) ∧ (s.fin < 0 → more = false → topS s.gaps s.max ≤ off + d.length) := by
  unfold refusedS at h
  split at h
  · cases h
  split at h
  · cases h
  split at h
  · cases h
  split at h
  · cases h
  split at h
  · cases h
  split at h
  · cases h
  split at h
  · cases h
  rename_i h1 h2 h3 h4 h5 h6 h7
  refine ⟨by omega, by omega, by omega, by omega, fun hm => ?_, fun hf hm => ?_, fun hf hm => ?_, fun hf hm => ?_⟩
  · exact Classical.byContradiction fun hn => h2 (.inr (.inr ⟨hm, hn⟩))
  · exact Classical.byContradiction fun hn => h5 ⟨hf, hm, hn⟩
  · exact Int.not_lt.1 fun hn => h6 ⟨hf, hm, hn⟩
  · exact Int.not_lt.1 fun hn => h7 ⟨hf, hm, hn⟩
theorem Gs.split {gs : List (Int × Int)} {g : Int × Int} : ∀ {l : List (Int × Int)} {lo : Int}, l = gs ++ [g] → Gs lo hi l → lo ≤ g.1 ∧ g.1 < g.2 ∧ g.2 ≤ hi ∧ Gs lo (g.1 - 1) gs := by
  induction gs with
  | nil =>
    intro l lo hl h
    subst hl
    exact ⟨h.1, h.2.1, h.2.2.1, trivial⟩
  | cons x r ih =>
    intro l lo hl h
    subst hl
    have := ih rfl h.2.2.2
    have h1 := h.1
    have h2 := h.2.1
    exact ⟨by omega, this.2.1, this.2.2.1, h.1, h.2.1, by omega, this.2.2.2⟩
theorem Gs.snoc {g : Int × Int} : ∀ {gs : List (Int × Int)} {lo : Int}, Gs lo (g.1 - 1) gs → lo ≤ g.1 → g.1 < g.2 → g.2 ≤ hi → Gs lo hi (gs ++ [g])
  | [], _, _, h1, h2, h3 => ⟨h1, h2, h3, trivial⟩
  | x :: r, lo, h, h1, h2, h3 => ⟨h.1, h.2.1, by have := h.2.2.1; omega, h.2.2.2.snoc (by have := h.2.2.1; omega) h2 h3⟩
/-- Where no more than the last gap comes up to the end that is told now. -/
theorem top_le {max : Int} (h : Gs 0 max gs) (ht : topS gs max ≤ to) : max ≤ to ∨ ∃ l g, gs = l ++ [g] ∧ g.2 = max ∧ g.1 ≤ to ∧ Gs 0 (g.1 - 1) l := by
  unfold topS at ht
  cases hl : gs.getLast? with
  | none => rw [hl] at ht; exact .inl ht
  | some g =>
    rw [hl] at ht
    simp only at ht
    obtain ⟨l, hgl⟩ := List.getLast?_eq_some_iff.1 hl
    split at ht
    · rename_i h2
      have := Gs.split hgl h
      exact .inr ⟨l, g, hgl, h2, ht, this.2.2.2⟩
    · exact .inl ht
theorem end_gs {max : Int} (h0 : off < to) (_ho : 0 ≤ off) (hto : to ≤ max) (h : Gs 0 max gs) (ht : topS gs max ≤ to) :
    Gs 0 to (endG (gs.flatMap (cutG off to)) max to) ∧ ∀ p, Miss (endG (gs.flatMap (cutG off to)) max to) p ↔ Miss gs p ∧ ¬ (off ≤ p ∧ p < to) ∧ p < to := by
  have hc := cuts_gs h0 h
  have hcm : ∀ p, Miss (gs.flatMap (cutG off to)) p ↔ Miss gs p ∧ ¬ (off ≤ p ∧ p < to) := fun p => cuts_miss h0
  rcases top_le h ht with hm | ⟨l, g, rfl, h2, h1, hl⟩
  · have : to = max := by omega
    subst this
    have e : endG (gs.flatMap (cutG off to)) to to = gs.flatMap (cutG off to) := by
      unfold endG
      split
      · rfl
      · rename_i x hx
        obtain ⟨l, hgl⟩ := List.getLast?_eq_some_iff.1 hx
        have := Gs.split hgl hc
        split
        · rename_i h3
          rw [if_neg (by omega), hgl, List.dropLast_concat, ← h3]
        · rfl
    rw [e]
    exact ⟨hc, fun p => by
      rw [hcm p]
      exact ⟨fun h4 => ⟨h4.1, h4.2, (hc.miss ((hcm p).2 h4)).2⟩, fun h4 => ⟨h4.1, h4.2.1⟩⟩⟩
  · have hg := Gs.split rfl h
    have hlc := cuts_gs h0 (hl.upper (hi' := g.1 - 1) (Int.le_refl _))
    by_cases hmt : to = max
    · subst hmt
      rw [List.flatMap_append] at hc hcm ⊢
      have e : endG (l.flatMap (cutG off to) ++ [g].flatMap (cutG off to)) to to = l.flatMap (cutG off to) ++ [g].flatMap (cutG off to) := by
        unfold endG
        split
        · rfl
        · rename_i x hx
          obtain ⟨l', hgl⟩ := List.getLast?_eq_some_iff.1 hx
          have := Gs.split hgl hc
          split
          · rename_i h3
            rw [if_neg (by omega), hgl, List.dropLast_concat, ← h3]
          · rfl
      rw [e]
      exact ⟨hc, fun p => by
        rw [hcm p]
        exact ⟨fun h4 => ⟨h4.1, h4.2, (hc.miss ((hcm p).2 h4)).2⟩, fun h4 => ⟨h4.1, h4.2.1⟩⟩⟩
    · have key : ∃ a : List (Int × Int), (l ++ [g]).flatMap (cutG off to) = a ++ [(to, max)] ∧ Gs 0 to a := by
        rw [List.flatMap_append, List.flatMap_cons, List.flatMap_nil, List.append_nil]
        have hcg : cutG off to g = (if g.1 < off then [(g.1, off)] else []) ++ [(to, max)] := by
          unfold cutG gLo gHi
          by_cases c1 : to ≤ g.1
          · rw [if_pos c1, if_neg (by omega)]
            have : to = g.1 := by omega
            rw [this, ← h2]; rfl
          · rw [if_neg c1, if_neg (by omega)]
            have c4 : to < max := by omega
            by_cases c3 : g.1 < off <;> simp [c3, c4, h2]
        refine ⟨l.flatMap (cutG off to) ++ (if g.1 < off then [(g.1, off)] else []), by rw [hcg, List.append_assoc], ?_⟩
        by_cases c3 : g.1 < off
        · rw [if_pos c3]
          exact Gs.snoc (g := (g.1, off)) hlc hg.1 c3 (by show off ≤ to; omega)
        · rw [if_neg c3, List.append_nil]
          exact hlc.upper (by omega)
      obtain ⟨a, ha, hga⟩ := key
      have e : endG ((l ++ [g]).flatMap (cutG off to)) max to = a := by
        rw [ha]
        unfold endG
        rw [List.getLast?_concat]
        simp
      rw [e]
      refine ⟨hga, fun p => ?_⟩
      constructor
      · intro hp
        have h3 := hga.miss hp
        have h4 := (hcm p).1 (by
          rw [ha]
          obtain ⟨x, hx, h5⟩ := hp
          exact ⟨x, by simp [hx], h5⟩)
        exact ⟨h4.1, h4.2, h3.2⟩
      · rintro ⟨h3, h4, h5⟩
        have := (hcm p).2 ⟨h3, h4⟩
        rw [ha] at this
        obtain ⟨x, hx, h6⟩ := this
        rcases List.mem_append.1 hx with hx | hx
        · exact ⟨x, hx, h6⟩
        · simp at hx; subst hx
          have : to ≤ p := h6.1
          omega
theorem bts_zpad {b : List Int} (h : Bts b) (to : Nat) : Bts (zpad b to) := fun x hx => by
  unfold zpad at hx
  rcases List.mem_append.1 hx with hx | hx
  · exact h x hx
  · rw [(List.mem_replicate.1 hx).2]; omega
theorem bts_get {b : List Int} (h : ∀ (i : Nat) (x : Int), b[i]? = some x → 0 ≤ x ∧ x < 256) : Bts b := fun x hx => by
  obtain ⟨i, hi, rfl⟩ := List.getElem_of_mem hx
  exact h i _ (List.getElem?_eq_getElem hi)
theorem put_ok (h : HolOk s) (hB : Bts d) (hr : refusedS s off d.length more = 0) : HolOk (putS s off d more) ∧ ((putS s off d more).buf.length = max s.buf.length (off + d.length).toNat) ∧
    (∀ p : Int, Miss (putS s off d more).gaps p ↔ Miss s.gaps p ∧ ¬ (off ≤ p ∧ p < off + d.length) ∧ (more = false → s.fin < 0 → p < off + d.length)) ∧
    (∀ p : Nat, (Miss s.gaps p ∧ off ≤ p ∧ p < off + d.length → (putS s off d more).buf[p]? = d[p - off.toNat]?) ∧ (¬ (Miss s.gaps p ∧ off ≤ p ∧ p < off + d.length) → (putS s off d more).buf[p]? = (zpad s.buf (off + d.length).toNat)[p]?)) := by
  obtain ⟨h1, h2, h3, h4, h5, h6, h7, h8⟩ := refused_ok hr
  have hga := gs_all h.gs (Int.le_refl _)
  have hz := zpad_len s.buf (off + d.length).toNat
  have hlen := bufN_len h1 (rfl : off + (d.length : Int) = off + d.length) (gs := s.gaps) (b := zpad s.buf (off + d.length).toNat) (by omega) hga
  have hget := fun p => bufN_get h1 (rfl : off + (d.length : Int) = off + d.length) p (gs := s.gaps) (b := zpad s.buf (off + d.length).toNat) (by omega) hga
  have hm1 := h.m1
  have hm2 := h.m2
  have hbl := h.blen
  refine ⟨⟨hm1, hm2, ?_, ?_, ?_, ?_⟩, by show (bufN _ _ _ _ _).length = _; rw [hlen, hz], ?_, hget⟩
  · refine bts_get fun i x hx => ?_
    by_cases hc : Miss s.gaps i ∧ off ≤ i ∧ i < off + d.length
    · have := (hget i).1 hc
      have hx : (bufN off (off + d.length) d (zpad s.buf (off + d.length).toNat) s.gaps)[i]? = some x := hx
      rw [this] at hx
      exact hB x (List.mem_of_getElem? hx)
    · have := (hget i).2 hc
      have hx : (bufN off (off + d.length) d (zpad s.buf (off + d.length).toNat) s.gaps)[i]? = some x := hx
      rw [this] at hx
      exact bts_zpad h.bts _ x (List.mem_of_getElem? hx)
  · show ((bufN off (off + d.length) d (zpad s.buf (off + d.length).toNat) s.gaps).length : Int) ≤ s.max
    rw [hlen, hz]
    omega
  · show (if more = false ∧ s.fin < 0 then off + (d.length : Int) else s.fin) = -1 ∨ _ ∧ _ ∧ (if more = false ∧ s.fin < 0 then off + (d.length : Int) else s.fin) ≤ ((bufN off (off + d.length) d (zpad s.buf (off + d.length).toNat) s.gaps).length : Int)
    rw [hlen, hz]
    have := h.fin
    split
    · refine .inr ⟨?_, ?_, ?_⟩
      · show 0 ≤ (if more = false ∧ s.fin < 0 then off + (d.length : Int) else s.fin); rename_i hc; rw [if_pos hc]; omega
      · show (if more = false ∧ s.fin < 0 then off + (d.length : Int) else s.fin) ≤ s.max; rename_i hc; rw [if_pos hc]; omega
      · omega
    · rename_i hc
      rcases this with h9 | h9
      · exact .inl h9
      · refine .inr ⟨?_, ?_, by omega⟩
        · show 0 ≤ (if more = false ∧ s.fin < 0 then off + (d.length : Int) else s.fin); rw [if_neg hc]; omega
        · show (if more = false ∧ s.fin < 0 then off + (d.length : Int) else s.fin) ≤ s.max; rw [if_neg hc]; omega
  · show Gs 0 (if (if more = false ∧ s.fin < 0 then off + (d.length : Int) else s.fin) < 0 then s.max else (if more = false ∧ s.fin < 0 then off + (d.length : Int) else s.fin)) (if more = false ∧ s.fin < 0 then endG (s.gaps.flatMap (cutG off (off + d.length))) s.max (off + d.length) else s.gaps.flatMap (cutG off (off + d.length)))
    by_cases hc : more = false ∧ s.fin < 0
    · rw [if_pos hc, if_pos hc, if_neg (by omega)]
      have hg := h.gs
      rw [if_pos hc.2] at hg
      exact (end_gs (by omega) h1 h4 hg (h8 hc.2 hc.1)).1
    · rw [if_neg hc, if_neg hc]
      exact cuts_gs (by omega) h.gs
  · intro p
    show Miss (if more = false ∧ s.fin < 0 then endG (s.gaps.flatMap (cutG off (off + d.length))) s.max (off + d.length) else s.gaps.flatMap (cutG off (off + d.length))) p ↔ _
    by_cases hc : more = false ∧ s.fin < 0
    · rw [if_pos hc]
      have hg := h.gs
      rw [if_pos hc.2] at hg
      rw [(end_gs (by omega) h1 h4 hg (h8 hc.2 hc.1)).2 p]
      exact ⟨fun ⟨a, b, c⟩ => ⟨a, b, fun _ _ => c⟩, fun ⟨a, b, c⟩ => ⟨a, b, c hc.1 hc.2⟩⟩
    · rw [if_neg hc, cuts_miss (by omega)]
      exact ⟨fun ⟨a, b⟩ => ⟨a, b, fun x y => absurd ⟨x, y⟩ hc⟩, fun ⟨a, b, _⟩ => ⟨a, b⟩⟩
end
end Go.Eng
/- TopWholeOnce6 by value: what the pieces of one datagram leave in the holes. -/
namespace Go.Proofs.YthhgbpmihhljdaaGreatDoor
namespace N6
open Go Go.Eng Go.RowKit
/-- Pieces, one behind the other. -/
structure Cut (N : Nat) (xs : List (Nat × Nat)) : Prop where
  pos : ∀ (i : Nat) (x : Nat × Nat), xs[i]? = some x → 0 < x.2 ∧ x.1 % 8 = 0 ∧ x.1 + x.2 ≤ N
  more : ∀ (i : Nat) (x : Nat × Nat), xs[i]? = some x → i + 1 < xs.length → x.2 % 8 = 0 ∧ x.1 + x.2 < N
  last : ∀ (i : Nat) (x : Nat × Nat), xs[i]? = some x → i + 1 = xs.length → x.1 + x.2 = N
  step : ∀ (i : Nat) (x y : Nat × Nat), xs[i]? = some x → xs[i + 1]? = some y → y.1 = x.1 + x.2
  first : ∀ x : Nat × Nat, xs[0]? = some x → x.1 = 0
  two : 2 ≤ xs.length
section
variable {N : Nat} {xs : List (Nat × Nat)} {R : List Int} {s : HolS} {seen : List Nat} {j : Nat} {x : Nat × Nat}
theorem Cut.before (h : Cut N xs) : ∀ (k i : Nat) (x y : Nat × Nat), xs[i]? = some x → xs[i + 1 + k]? = some y → x.1 + x.2 ≤ y.1
  | 0, i, x, y, hx, hy => by rw [h.step i x y hx hy]; exact Nat.le_refl _
  | k + 1, i, x, y, hx, hy => by
    have hlt := (List.getElem?_eq_some_iff.1 hy).1
    obtain ⟨z, hz⟩ : ∃ z, xs[i + 1 + k]? = some z := ⟨_, List.getElem?_eq_getElem (by omega)⟩
    have h1 := h.before k i x z hx hz
    have h2 := h.step (i + 1 + k) z y hz (by rw [← hy]; congr 1)
    omega
theorem Cut.apart (h : Cut N xs) {i : Nat} {y : Nat × Nat} (hx : xs[i]? = some x) (hy : xs[j]? = some y) (hij : i ≠ j) : x.1 + x.2 ≤ y.1 ∨ y.1 + y.2 ≤ x.1 := by
  rcases Nat.lt_or_gt_of_ne hij with h1 | h1
  · exact .inl (h.before (j - i - 1) i x y hx (by rw [← hy]; congr 1; omega))
  · exact .inr (h.before (i - j - 1) j y x hy (by rw [← hx]; congr 1; omega))
theorem Cut.cover (h : Cut N xs) : ∀ (k : Nat), k ≤ xs.length → ∀ p : Nat, (∀ x : Nat × Nat, xs[k]? = some x → p < x.1) → (k = xs.length → p < N) → ∃ (i : Nat) (x : Nat × Nat), i < k ∧ xs[i]? = some x ∧ x.1 ≤ p ∧ p < x.1 + x.2
  | 0, hk, p, h1, _ => by
    have h2 := h.two
    obtain ⟨x, hx⟩ : ∃ x, xs[0]? = some x := ⟨_, List.getElem?_eq_getElem (by omega)⟩
    have := h1 x hx
    have := h.first x hx
    omega
  | k + 1, hk, p, h1, h2 => by
    obtain ⟨x, hx⟩ : ∃ x, xs[k]? = some x := ⟨_, List.getElem?_eq_getElem (by omega)⟩
    by_cases hp : x.1 ≤ p
    · refine ⟨k, x, by omega, hx, hp, ?_⟩
      by_cases hl : k + 1 = xs.length
      · have := h.last k x hx hl
        have := h2 hl
        omega
      · obtain ⟨y, hy⟩ : ∃ y, xs[k + 1]? = some y := ⟨_, List.getElem?_eq_getElem (by omega)⟩
        have := h.step k x y hx hy
        have := h1 y hy
        omega
    · obtain ⟨i, y, h3, h4⟩ := h.cover k (by omega) p (fun y hy => by rw [hx] at hy; cases hy; omega) (fun e => by omega)
      exact ⟨i, y, by omega, h4⟩
def dat (R : List Int) (x : Nat × Nat) : List Int := (R.drop x.1).take x.2
def mor (N : Nat) (x : Nat × Nat) : Bool := decide (x.1 + x.2 < N)
def pcOf (N : Nat) (x : Nat × Nat) : PcV := ⟨x.1, x.2, mor N x⟩
theorem dat_len (hR : R.length = N) (hx : x.1 + x.2 ≤ N) : (dat R x).length = x.2 := by unfold dat; simp; omega
theorem dat_get (_hR : R.length = N) (_hx : x.1 + x.2 ≤ N) {p : Nat} (h1 : x.1 ≤ p) (h2 : p < x.1 + x.2) : (dat R x)[p - x.1]? = R[p]? := by
  unfold dat
  rw [List.getElem?_take, if_pos (by omega), List.getElem?_drop]
  congr 1; omega
theorem Cut.mor (h : Cut N xs) (hx : xs[j]? = some x) : mor N x = decide (j + 1 < xs.length) := by
  unfold N6.mor
  have hlt := (List.getElem?_eq_some_iff.1 hx).1
  by_cases hl : j + 1 < xs.length
  · rw [decide_eq_true (h.more j x hx hl).2, decide_eq_true hl]
  · rw [decide_eq_false (by have := h.last j x hx (by omega); omega), decide_eq_false hl]
/-- What the holes are when these pieces were seen. -/
structure Hi (N : Nat) (xs : List (Nat × Nat)) (R : List Int) (s : HolS) (seen : List Nat) : Prop where
  ok : HolOk s
  max : s.max = 65495
  finN : xs.length - 1 ∈ seen → s.fin = N
  fin0 : xs.length - 1 ∉ seen → s.fin = -1
  miss : ∀ p : Int, Miss s.gaps p ↔ 0 ≤ p ∧ p < (if xs.length - 1 ∈ seen then (N : Int) else 65495) ∧ ∀ i ∈ seen, ∀ x : Nat × Nat, xs[i]? = some x → ¬ ((x.1 : Int) ≤ p ∧ p < (x.1 + x.2 : Nat))
  buf : ∀ i ∈ seen, ∀ x : Nat × Nat, xs[i]? = some x → ∀ p, x.1 ≤ p → p < x.1 + x.2 → s.buf[p]? = R[p]?
  pcs : ∀ v, v ∈ s.seen ↔ ∃ i ∈ seen, ∃ x : Nat × Nat, xs[i]? = some x ∧ v = pcOf N x
theorem Hi.start : Hi N xs R (HolS.start 65495) [] where
  ok := HolOk.start (by decide) (by decide)
  max := rfl
  finN := fun h => by cases h
  fin0 := fun _ => rfl
  miss := fun p => by
    rw [if_neg (by simp)]
    constructor
    · rintro ⟨g, hg, h1, h2⟩
      rw [List.mem_singleton.1 hg] at h1 h2
      exact ⟨h1, h2, fun i hi => by cases hi⟩
    · rintro ⟨h1, h2, _⟩
      exact ⟨(0, 65495), List.mem_singleton.2 rfl, h1, h2⟩
  buf := fun i hi => by cases hi
  pcs := fun v => by
    constructor
    · intro h; cases h
    · rintro ⟨i, hi, _⟩; cases hi
theorem addSeen_mem {l : List PcV} {p v : PcV} : v ∈ addSeen l p ↔ v ∈ l ∨ v = p := by
  unfold addSeen
  split
  · rename_i h
    obtain ⟨q, hq, hb⟩ := List.any_eq_true.1 h
    have hb : PcV.beq p q = true := hb
    have : p = q := by
      unfold PcV.beq at hb
      simp only [Bool.and_eq_true, decide_eq_true_eq, beq_iff_eq, and_true] at hb
      cases p; cases q
      simp only at hb
      obtain ⟨h1, h2, h3⟩ := hb
      subst h1; subst h2; subst h3; rfl
    subst this
    exact ⟨.inl, fun h => by rcases h with h | rfl <;> assumption⟩
  · rw [List.mem_append, List.mem_singleton]
/-- The last gap, where all from some place on is missing. -/
theorem top_from {gs : List (Int × Int)} {max a : Int} (hg : Gs 0 max gs) (_ha0 : 0 ≤ a) (ha : a < max) (hm : ∀ p, a ≤ p → p < max → Miss gs p) : topS gs max ≤ a := by
  unfold topS
  cases hl : gs.getLast? with
  | none =>
    rw [List.getLast?_eq_none_iff] at hl
    subst hl
    obtain ⟨g, h, _⟩ := hm a (Int.le_refl _) ha
    cases h
  | some g =>
    obtain ⟨l, rfl⟩ : ∃ l, gs = l ++ [g] := List.getLast?_eq_some_iff.1 hl
    obtain ⟨h1, h2, h3, h4⟩ := Gs.split rfl hg
    have last : ∀ p, Miss (l ++ [g]) p → p < g.1 - 1 ∨ (g.1 ≤ p ∧ p < g.2) := fun p ⟨q, hq, q1, q2⟩ => by
      rcases List.mem_append.1 hq with hq | hq
      · have := h4.mem hq
        exact .inl (by omega)
      · rw [List.mem_singleton.1 hq] at q1 q2
        exact .inr ⟨q1, q2⟩
    have e2 : g.2 = max := by
      rcases last _ (hm (max - 1) (by omega) (by omega)) with h | h <;> omega
    show (if g.2 = max then g.1 else max) ≤ a
    rw [if_pos e2]
    rcases Int.lt_or_le a g.1 with h | h
    · rcases last _ (hm (g.1 - 1) (by omega) (by omega)) with h | h <;> omega
    · exact h
theorem Hi.refused (h : Hi N xs R s seen) (hC : Cut N xs) (hN : N ≤ 65495) (hx : xs[j]? = some x) : refusedS s x.1 x.2 (mor N x) = 0 := by
  obtain ⟨p1, p2, p3⟩ := hC.pos j x hx
  have hmax := h.max
  have hmo := hC.mor hx
  have hlt := (List.getElem?_eq_some_iff.1 hx).1
  unfold refusedS
  rw [if_neg (by omega)]
  have c1 : ¬ ((x.1 : Int) < 0 ∨ (x.1 : Int) % 8 ≠ 0 ∨ (mor N x = true ∧ (x.2 : Int) % 8 ≠ 0)) := by
    rintro (h1 | h1 | ⟨h1, h2⟩)
    · omega
    · omega
    · rw [hmo] at h1
      have := (hC.more j x hx (of_decide_eq_true h1)).1
      omega
  rw [if_neg c1, if_neg (by omega), if_neg (by omega)]
  have c2 : ¬ (0 ≤ s.fin ∧ mor N x = false ∧ (x.1 : Int) + x.2 ≠ s.fin) := by
    rintro ⟨h1, h2, h3⟩
    rw [hmo] at h2
    have hl : j + 1 = xs.length := by have := of_decide_eq_false h2; omega
    have hs : xs.length - 1 ∈ seen := Classical.byContradiction fun hn => by rw [h.fin0 hn] at h1; omega
    have := hC.last j x hx hl
    rw [h.finN hs] at h3
    omega
  have c3 : ¬ (0 ≤ s.fin ∧ mor N x = true ∧ s.fin < (x.1 : Int) + x.2) := by
    rintro ⟨h1, _, h3⟩
    have hs : xs.length - 1 ∈ seen := Classical.byContradiction fun hn => by rw [h.fin0 hn] at h1; omega
    rw [h.finN hs] at h3
    omega
  have c4 : ¬ (s.fin < 0 ∧ mor N x = false ∧ (x.1 : Int) + x.2 < topS s.gaps s.max) := by
    rintro ⟨h1, h2, h3⟩
    rw [hmo] at h2
    have hl : j + 1 = xs.length := by have := of_decide_eq_false h2; omega
    have hs : xs.length - 1 ∉ seen := fun hs => by rw [h.finN hs] at h1; omega
    have hgs := h.ok.gs
    rw [if_pos h1] at hgs
    have := top_from (a := x.1) hgs (by omega) (by omega) fun p hp1 hp2 => (h.miss p).2 ⟨by omega, by rw [if_neg hs]; omega, fun i hi y hy => by
      have hij : i ≠ j := fun e => hs (by rw [show xs.length - 1 = j by omega, ← e]; exact hi)
      rcases hC.apart hy hx hij with h | h
      · omega
      · have hil := (List.getElem?_eq_some_iff.1 hy).1
        have := hC.before (j - i - 1) i y x hy (by rw [← hx]; congr 1; omega)
        omega⟩
    omega
  rw [if_neg c2, if_neg c3, if_neg c4]
/-- A piece that has not come. -/
theorem Hi.new (h : Hi N xs R s seen) (hC : Cut N xs) (hN : N ≤ 65495) (hR : R.length = N) (hB : Bts R) (hx : xs[j]? = some x) (hj : j ∉ seen) :
    (fitS s x.1 (dat R x) (mor N x)).same = false ∧ ¬ 0 < (fitS s x.1 (dat R x) (mor N x)).old ∧ Hi N xs R (putS s x.1 (dat R x) (mor N x)) (seen ++ [j]) := by
  obtain ⟨p1, p2, p3⟩ := hC.pos j x hx
  have hdl := dat_len hR p3
  have hr := h.refused hC hN hx
  have hr' : refusedS s x.1 (dat R x).length (mor N x) = 0 := by rw [hdl]; exact hr
  have hmo := hC.mor hx
  have hlt := (List.getElem?_eq_some_iff.1 hx).1
  have hBd : Bts (dat R x) := fun y hy => hB y (List.mem_of_mem_drop (List.mem_of_mem_take hy))
  obtain ⟨q1, q2, q3, q4⟩ := put_ok h.ok hBd hr'
  rw [hdl] at q2 q3 q4
  have hmissx : ∀ p : Int, (x.1 : Int) ≤ p → p < (x.1 + x.2 : Nat) → Miss s.gaps p := fun p h1 h2 => (h.miss p).2 ⟨by omega, by split <;> omega, fun i hi y hy => by
    rcases hC.apart hy hx (fun e => hj (e ▸ hi)) with h | h <;> omega⟩
  refine ⟨?_, ?_, ?_⟩
  · show (s.seen.any (PcV.beq ⟨x.1, (dat R x).length, mor N x⟩) && _) = false
    rw [Bool.and_eq_false_iff]
    left
    rw [List.any_eq_false]
    intro v hv hb
    obtain ⟨i, hi, y, hy, rfl⟩ := (h.pcs v).1 hv
    unfold PcV.beq pcOf at hb
    simp only [Bool.and_eq_true, decide_eq_true_eq, beq_iff_eq, and_true] at hb
    have hpy := hC.pos i y hy
    rcases hC.apart hy hx (fun e => hj (e ▸ hi)) with h | h <;> omega
  · show ¬ 0 < ((dat R x).length : Int) - newN x.1 (x.1 + (dat R x).length) s.gaps
    rw [hdl, newN_all (by omega) h.ok.gs fun p h1 h2 => hmissx p h1 (by omega)]
    omega
  · have hmem : ∀ i, i ∈ seen ++ [j] ↔ i ∈ seen ∨ i = j := fun i => by simp
    have hfin : (putS s x.1 (dat R x) (mor N x)).fin = if mor N x = false ∧ s.fin < 0 then (x.1 : Int) + x.2 else s.fin := by
      show (if _ then (x.1 : Int) + (dat R x).length else s.fin) = _
      rw [hdl]
    refine ⟨q1, h.max, fun hs => ?_, fun hs => ?_, fun p => ?_, fun i hi y hy p h1 h2 => ?_, fun v => ?_⟩
    · rw [hfin]
      rcases (hmem _).1 hs with hs | hs
      · have := h.finN hs
        rw [if_neg (by rintro ⟨_, h⟩; omega)]; exact this
      · have hm : mor N x = false := by rw [hmo, decide_eq_false (by omega)]
        have hf := h.fin0 (by rw [hs]; exact hj)
        rw [if_pos ⟨hm, by omega⟩]
        have := hC.last j x hx (by omega)
        omega
    · rw [hfin]
      have h1 : xs.length - 1 ∉ seen := fun h => hs ((hmem _).2 (.inl h))
      have h2 : xs.length - 1 ≠ j := fun h => hs ((hmem _).2 (.inr h))
      rw [if_neg (by rintro ⟨hm, _⟩; rw [hmo] at hm; have := of_decide_eq_false hm; omega)]
      exact h.fin0 h1
    · rw [q3 p, h.miss p]
      by_cases hs : xs.length - 1 ∈ seen
      · rw [if_pos hs, if_pos ((hmem _).2 (.inl hs))]
        constructor
        · rintro ⟨⟨a1, a2, a3⟩, b, _⟩
          refine ⟨a1, a2, fun i hi y hy => ?_⟩
          rcases (hmem i).1 hi with hi | rfl
          · exact a3 i hi y hy
          · rw [hx] at hy; cases hy
            intro hh; exact b (by omega)
        · rintro ⟨a1, a2, a3⟩
          refine ⟨⟨a1, a2, fun i hi => a3 i ((hmem i).2 (.inl hi))⟩, ?_, fun _ hf => ?_⟩
          · have := a3 j ((hmem j).2 (.inr rfl)) x hx
            intro hh; exact this (by omega)
          · rw [h.finN hs] at hf; omega
      · have hf := h.fin0 hs
        rw [if_neg hs]
        by_cases hl : xs.length - 1 = j
        · rw [if_pos ((hmem _).2 (.inr hl))]
          have hm : mor N x = false := by rw [hmo, decide_eq_false (by omega)]
          have hla := hC.last j x hx (by omega)
          constructor
          · rintro ⟨⟨a1, a2, a3⟩, b, b2⟩
            have := b2 hm (by omega)
            refine ⟨a1, by omega, fun i hi y hy => ?_⟩
            rcases (hmem i).1 hi with hi | rfl
            · exact a3 i hi y hy
            · rw [hx] at hy; cases hy
              intro hh; exact b (by omega)
          · rintro ⟨a1, a2, a3⟩
            refine ⟨⟨a1, by omega, fun i hi => a3 i ((hmem i).2 (.inl hi))⟩, ?_, fun _ _ => by omega⟩
            have := a3 j ((hmem j).2 (.inr rfl)) x hx
            intro hh; exact this (by omega)
        · rw [if_neg (fun h => by rcases (hmem _).1 h with h | h; exact hs h; exact hl h)]
          have hm : mor N x = true := by rw [hmo, decide_eq_true (by omega)]
          constructor
          · rintro ⟨⟨a1, a2, a3⟩, b, _⟩
            refine ⟨a1, a2, fun i hi y hy => ?_⟩
            rcases (hmem i).1 hi with hi | rfl
            · exact a3 i hi y hy
            · rw [hx] at hy; cases hy
              intro hh; exact b (by omega)
          · rintro ⟨a1, a2, a3⟩
            refine ⟨⟨a1, a2, fun i hi => a3 i ((hmem i).2 (.inl hi))⟩, ?_, fun h => by rw [hm] at h; cases h⟩
            have := a3 j ((hmem j).2 (.inr rfl)) x hx
            intro hh; exact this (by omega)
    · rcases (hmem i).1 hi with hi | rfl
      · have hpy := hC.pos i y hy
        have hnm : ¬ (Miss s.gaps p ∧ (x.1 : Int) ≤ p ∧ (p : Int) < x.1 + x.2) := by
          rintro ⟨hm, _⟩
          exact ((h.miss p).1 hm).2.2 i hi y hy ⟨by omega, by omega⟩
        rw [(q4 p).2 hnm]
        have hb := h.buf i hi y hy p h1 h2
        have hlt' : p < s.buf.length := by
          have hRp : p < R.length := by omega
          rw [List.getElem?_eq_getElem hRp] at hb
          exact (List.getElem?_eq_some_iff.1 hb).1
        unfold zpad
        rw [List.getElem?_append_left hlt']
        exact hb
      · rw [hx] at hy; cases hy
        rw [(q4 p).1 ⟨hmissx p (by omega) (by omega), by omega, by omega⟩]
        rw [Int.toNat_natCast]
        exact dat_get hR p3 h1 h2
    · show v ∈ addSeen s.seen ⟨x.1, (dat R x).length, mor N x⟩ ↔ _
      rw [addSeen_mem, h.pcs v, hdl]
      constructor
      · rintro (⟨i, hi, y, hy, rfl⟩ | rfl)
        · exact ⟨i, (hmem i).2 (.inl hi), y, hy, rfl⟩
        · exact ⟨j, (hmem j).2 (.inr rfl), x, hx, rfl⟩
      · rintro ⟨i, hi, y, hy, rfl⟩
        rcases (hmem i).1 hi with hi | rfl
        · exact .inl ⟨i, hi, y, hy, rfl⟩
        · rw [hx] at hy; cases hy
          exact .inr rfl
end
end N6
end Go.Proofs.YthhgbpmihhljdaaGreatDoor
