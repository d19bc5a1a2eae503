/- Chapter 11 by value: what one datagram in the making holds, and what laying a piece in makes of it. Of no program. -/
import Derived.Test.YthhgbpmihhljdaaDoorBah
import Derived.Test.YthhgbpmihhljdaaDoorBai
import Derived.Test.YthhgbpmihhljdaaDoorBao
import Derived.Maps.RangeRun
import Derived.MapKept
import Derived.WideKeyRuns
namespace Go.Eng
open Go Go.RowKit
structure HolS where
  max : Int
  buf : List Int
  gaps : List (Int × Int)
  fin : Int
  seen : List PcV
/-- Gaps, rising, apart, within. -/
def Gs : Int → Int → List (Int × Int) → Prop
  | _, _, [] => True
  | lo, hi, g :: r => lo ≤ g.1 ∧ g.1 < g.2 ∧ g.2 ≤ hi ∧ Gs (g.2 + 1) hi r
def Miss (gs : List (Int × Int)) (p : Int) : Prop := ∃ g ∈ gs, g.1 ≤ p ∧ p < g.2
def gLo (off : Int) (g : Int × Int) : Int := if g.1 < off then off else g.1
def gHi (to : Int) (g : Int × Int) : Int := if to < g.2 then to else g.2
def cutG (off to : Int) (g : Int × Int) : List (Int × Int) :=
  if to ≤ g.1 then [g] else if g.2 ≤ off then [g] else (if g.1 < gLo off g then [(g.1, gLo off g)] else []) ++ (if gHi to g < g.2 then [(gHi to g, g.2)] else [])
def new1 (off to : Int) (g : Int × Int) : Int := if to ≤ g.1 then 0 else if g.2 ≤ off then 0 else gHi to g - gLo off g
def newN (off to : Int) : List (Int × Int) → Int
  | [] => 0
  | g :: r => new1 off to g + newN off to r
def lay1 (b : List Int) (lo : Nat) (d : List Int) : List Int := b.take lo ++ (d ++ b.drop (lo + d.length))
def buf1 (off to : Int) (d b : List Int) (g : Int × Int) : List Int :=
  if to ≤ g.1 then b else if g.2 ≤ off then b else lay1 b (gLo off g).toNat (bpart d (gLo off g - off).toNat (gHi to g - gLo off g).toNat)
def bufN (off to : Int) (d : List Int) : List Int → List (Int × Int) → List Int
  | b, [] => b
  | b, g :: r => bufN off to d (buf1 off to d b g) r
def topS (gs : List (Int × Int)) (max : Int) : Int :=
  match gs.getLast? with
  | none => max
  | some g => if g.2 = max then g.1 else max
def endG (gs : List (Int × Int)) (max to : Int) : List (Int × Int) :=
  match gs.getLast? with
  | none => gs
  | some g => if g.2 = max then (if to ≤ g.1 then gs.dropLast else gs.dropLast ++ [(g.1, to)]) else gs
def refusedS (s : HolS) (off : Int) (n : Nat) (more : Bool) : Int :=
  if (65535 : Int) < n then 2
  else if off < 0 ∨ off % 8 ≠ 0 ∨ (more = true ∧ (n : Int) % 8 ≠ 0) then 110
  else if n = 0 then 111
  else if s.max < off ∨ s.max < off + n then 112
  else if 0 ≤ s.fin ∧ more = false ∧ off + n ≠ s.fin then 114
  else if 0 ≤ s.fin ∧ more = true ∧ s.fin < off + n then 113
  else if s.fin < 0 ∧ more = false ∧ off + n < topS s.gaps s.max then 114
  else 0
def zpad (b : List Int) (to : Nat) : List Int := b ++ List.replicate (to - b.length) 0
def addSeen (l : List PcV) (p : PcV) : List PcV := if l.any (PcV.beq p) then l else l ++ [p]
def putS (s : HolS) (off : Int) (d : List Int) (more : Bool) : HolS :=
  ⟨s.max, bufN off (off + d.length) d (zpad s.buf (off + d.length).toNat) s.gaps,
    if more = false ∧ s.fin < 0 then endG (s.gaps.flatMap (cutG off (off + d.length))) s.max (off + d.length) else s.gaps.flatMap (cutG off (off + d.length)),
    if more = false ∧ s.fin < 0 then off + d.length else s.fin,
    addSeen s.seen ⟨off, d.length, more⟩⟩
def fitS (s : HolS) (off : Int) (d : List Int) (more : Bool) : FitV :=
  ⟨newN off (off + d.length) s.gaps, d.length - newN off (off + d.length) s.gaps,
    s.seen.any (PcV.beq ⟨off, d.length, more⟩) && decide (bpart (putS s off d more).buf off.toNat d.length = d)⟩
structure HolOk (s : HolS) : Prop where
  m1 : 1 ≤ s.max
  m2 : s.max ≤ 65535
  bts : Bts s.buf
  blen : (s.buf.length : Int) ≤ s.max
  fin : s.fin = -1 ∨ (0 ≤ s.fin ∧ s.fin ≤ s.max ∧ s.fin ≤ s.buf.length)
  gs : Gs 0 (if s.fin < 0 then s.max else s.fin) s.gaps
def HolS.start (max : Int) : HolS := ⟨max, [], [(0, max)], -1, []⟩
theorem HolOk.start {max : Int} (h1 : 1 ≤ max) (h2 : max ≤ 65535) : HolOk (HolS.start max) :=
  ⟨h1, h2, fun _ h => (by cases h), by show ((0 : Nat) : Int) ≤ max; omega, .inl rfl, ⟨Int.le_refl _, by show (0 : Int) < max; omega, Int.le_refl _, trivial⟩⟩
section
variable {lo hi off to : Int} {gs : List (Int × Int)} {g : Int × Int}
theorem Gs.lower {lo' : Int} (h : Gs lo hi gs) (hl : lo' ≤ lo) : Gs lo' hi gs := by
  cases gs with
  | nil => trivial
  | cons g r => exact ⟨Int.le_trans hl h.1, h.2⟩
theorem Gs.upper {hi' : Int} : ∀ {gs : List (Int × Int)} {lo : Int}, Gs lo hi gs → hi ≤ hi' → Gs lo hi' gs
  | [], _, _, _ => trivial
  | _ :: _, _, h, hh => ⟨h.1, h.2.1, Int.le_trans h.2.2.1 hh, h.2.2.2.upper hh⟩
theorem Gs.mem : ∀ {gs : List (Int × Int)} {lo : Int}, Gs lo hi gs → g ∈ gs → lo ≤ g.1 ∧ g.1 < g.2 ∧ g.2 ≤ hi
  | [], _, _, h => by cases h
  | x :: r, lo, h, hg => by
    rcases List.mem_cons.1 hg with rfl | hg
    · exact ⟨h.1, h.2.1, h.2.2.1⟩
    · have := h.2.2.2.mem hg
      have := h.2.1
      have := h.1
      omega
theorem Gs.miss (h : Gs lo hi gs) {p : Int} (hp : Miss gs p) : lo ≤ p ∧ p < hi := by
  obtain ⟨g, hg, h1, h2⟩ := hp
  have := h.mem hg
  omega
theorem Gs.app : ∀ {a b : List (Int × Int)} {lo mid : Int}, Gs lo mid a → Gs (mid + 1) hi b → mid ≤ hi → lo ≤ mid + 1 → Gs lo hi (a ++ b)
  | [], b, lo, mid, _, hb, _, hl => hb.lower hl
  | g :: r, b, lo, mid, ha, hb, hm, _ => ⟨ha.1, ha.2.1, Int.le_trans ha.2.2.1 hm, ha.2.2.2.app hb hm (by have := ha.2.2.1; omega)⟩
theorem Gs.len : ∀ {gs : List (Int × Int)} {lo : Int}, Gs lo hi gs → gs = [] ∨ (gs.length : Int) ≤ hi - lo
  | [], _, _ => .inl rfl
  | g :: r, lo, h => by
    refine .inr ?_
    have h1 := h.1
    have h2 := h.2.1
    have h3 := h.2.2.1
    rcases h.2.2.2.len with rfl | h4
    · simp; omega
    · simp only [List.length_cons]; omega
theorem cut_gs (h0 : off < to) (h1 : lo ≤ g.1) (h2 : g.1 < g.2) (_h3 : g.2 ≤ hi) : Gs lo g.2 (cutG off to g) := by
  unfold cutG gLo gHi
  by_cases c1 : to ≤ g.1
  · rw [if_pos c1]; exact ⟨h1, h2, Int.le_refl _, trivial⟩
  rw [if_neg c1]
  by_cases c2 : g.2 ≤ off
  · rw [if_pos c2]; exact ⟨h1, h2, Int.le_refl _, trivial⟩
  rw [if_neg c2]
  by_cases c3 : g.1 < off
  · rw [if_pos c3, if_pos c3]
    by_cases c4 : to < g.2
    · rw [if_pos c4, if_pos c4]; exact ⟨h1, c3, by show off ≤ g.2; omega, by show off + 1 ≤ to; omega, c4, Int.le_refl _, trivial⟩
    · rw [if_neg c4, if_neg (by omega)]; exact ⟨h1, c3, by show off ≤ g.2; omega, trivial⟩
  · rw [if_neg c3, if_neg (by omega)]
    by_cases c4 : to < g.2
    · rw [if_pos c4, if_pos c4]; exact ⟨by show lo ≤ to; omega, c4, Int.le_refl _, trivial⟩
    · rw [if_neg c4, if_neg (by omega)]; trivial
theorem cut_miss {p : Int} : Miss (cutG off to g) p ↔ (g.1 ≤ p ∧ p < g.2) ∧ ¬ (off ≤ p ∧ p < to) ∨ (to ≤ g.1 ∧ g.1 ≤ p ∧ p < g.2) ∨ (g.2 ≤ off ∧ g.1 ≤ p ∧ p < g.2) := by
  unfold Miss cutG gLo gHi
  by_cases c1 : to ≤ g.1
  · rw [if_pos c1]; simp; omega
  rw [if_neg c1]
  by_cases c2 : g.2 ≤ off
  · rw [if_pos c2]; simp; omega
  rw [if_neg c2]
  by_cases c3 : g.1 < off
  · rw [if_pos c3, if_pos c3]
    by_cases c4 : to < g.2
    · rw [if_pos c4, if_pos c4]; simp; omega
    · rw [if_neg c4, if_neg (by omega)]; simp; omega
  · rw [if_neg c3, if_neg (by omega)]
    by_cases c4 : to < g.2
    · rw [if_pos c4, if_pos c4]; simp; omega
    · rw [if_neg c4, if_neg (by omega)]; simp; omega
theorem cuts_gs (h0 : off < to) : ∀ {gs : List (Int × Int)} {lo : Int}, Gs lo hi gs → Gs lo hi (gs.flatMap (cutG off to))
  | [], _, _ => trivial
  | g :: r, lo, h => by
    rw [List.flatMap_cons]
    exact (cut_gs h0 h.1 h.2.1 h.2.2.1).app (cuts_gs h0 h.2.2.2) h.2.2.1 (by have := h.1; have := h.2.1; omega)
theorem cuts_miss {p : Int} (_h0 : off < to) : Miss (gs.flatMap (cutG off to)) p ↔ Miss gs p ∧ ¬ (off ≤ p ∧ p < to) := by
  have h1 : Miss (gs.flatMap (cutG off to)) p ↔ ∃ g ∈ gs, Miss (cutG off to g) p := by
    unfold Miss
    constructor
    · rintro ⟨x, hx, h⟩
      obtain ⟨g, hg, hx⟩ := List.mem_flatMap.1 hx
      exact ⟨g, hg, x, hx, h⟩
    · rintro ⟨g, hg, x, hx, h⟩
      exact ⟨x, List.mem_flatMap.2 ⟨g, hg, hx⟩, h⟩
  rw [h1]
  constructor
  · rintro ⟨g, hg, h⟩
    have := cut_miss.1 h
    exact ⟨⟨g, hg, by omega⟩, by omega⟩
  · rintro ⟨⟨g, hg, h⟩, hn⟩
    exact ⟨g, hg, cut_miss.2 (.inl ⟨h, hn⟩)⟩
theorem newN_le (h0 : off < to) : ∀ {gs : List (Int × Int)} {lo : Int}, Gs lo hi gs → 0 ≤ newN off to gs ∧ newN off to gs ≤ to - off ∧ (off ≤ lo → newN off to gs ≤ to - lo ∨ newN off to gs = 0)
  | [], lo, _ => ⟨Int.le_refl _, by show (0 : Int) ≤ _; omega, fun _ => .inr rfl⟩
  | g :: r, lo, h => by
    have ih := newN_le h0 h.2.2.2
    have h1 := h.1
    have h2 := h.2.1
    simp only [newN]
    unfold new1 gLo gHi
    by_cases c1 : to ≤ g.1
    · rw [if_pos c1]
      have := ih.2.2
      omega
    rw [if_neg c1]
    by_cases c2 : g.2 ≤ off
    · rw [if_pos c2]; omega
    rw [if_neg c2]
    have := ih.2.2 (by omega)
    by_cases c3 : g.1 < off <;> by_cases c4 : to < g.2 <;> simp only [c3, c4, if_true, if_false] <;> omega
theorem newN_behind : ∀ {gs : List (Int × Int)}, (∀ g ∈ gs, to ≤ g.1) → newN off to gs = 0
  | [], _ => rfl
  | g :: r, h => by
    simp only [newN]
    rw [newN_behind fun x hx => h x (by simp [hx])]
    unfold new1
    rw [if_pos (h g (by simp))]; rfl
theorem newN_all (h0 : off < to) : ∀ {gs : List (Int × Int)} {lo : Int}, Gs lo hi gs → (∀ p, off ≤ p → p < to → Miss gs p) → newN off to gs = to - off
  | [], _, _, h => by obtain ⟨g, hg, _⟩ := h off (by omega) h0; cases hg
  | g :: r, lo, hG, h => by
    have h2 := hG.2.1
    simp only [newN]
    by_cases c2 : g.2 ≤ off
    · rw [newN_all h0 hG.2.2.2 fun p h3 h4 => by
        obtain ⟨x, hx, h5⟩ := h p h3 h4
        rcases List.mem_cons.1 hx with rfl | hx
        · omega
        · exact ⟨x, hx, h5⟩]
      unfold new1
      rw [if_neg (by omega), if_pos c2]; omega
    · have c1 : g.1 ≤ off := by
        obtain ⟨x, hx, h5⟩ := h off (by omega) h0
        rcases List.mem_cons.1 hx with rfl | hx
        · omega
        · have := hG.2.2.2.mem hx; omega
      have c3 : to ≤ g.2 := Classical.byContradiction fun hn => by
        obtain ⟨x, hx, h5⟩ := h g.2 (by omega) (by omega)
        rcases List.mem_cons.1 hx with rfl | hx
        · omega
        · have := hG.2.2.2.mem hx; omega
      rw [newN_behind fun x hx => by have := hG.2.2.2.mem hx; omega]
      unfold new1 gLo gHi
      rw [if_neg (by omega), if_neg c2]
      split <;> split <;> omega
end
/-! ### The bytes -/
theorem lay1_len {b d : List Int} {lo : Nat} (h : lo + d.length ≤ b.length) : (lay1 b lo d).length = b.length := by
  unfold lay1; simp; omega
theorem lay1_get {b d : List Int} {lo : Nat} (h : lo + d.length ≤ b.length) (p : Nat) : (lay1 b lo d)[p]? = if lo ≤ p ∧ p < lo + d.length then d[p - lo]? else b[p]? := by
  unfold lay1
  rw [List.getElem?_append]
  have hl : (b.take lo).length = lo := by simp; omega
  rw [hl, List.getElem?_append, List.getElem?_drop]
  by_cases c1 : p < lo
  · rw [if_pos c1, if_neg (by omega), List.getElem?_take, if_pos c1]
  · rw [if_neg c1]
    by_cases c2 : p - lo < d.length
    · rw [if_pos c2, if_pos (by omega)]
    · rw [if_neg c2, if_neg (by omega)]; congr 1; omega
section
variable {off to hi : Int} {d : List Int}
theorem buf1_len {b : List Int} {g : Int × Int} (h0 : 0 ≤ off) (h1 : off + d.length = to) (hb : to ≤ b.length) (h2 : 0 ≤ g.1) (h3 : g.1 < g.2) : (buf1 off to d b g).length = b.length := by
  unfold buf1 gLo gHi
  split
  · rfl
  · split
    · rfl
    · refine lay1_len ?_
      have hle : (bpart d ((if g.1 < off then off else g.1) - off).toNat ((if to < g.2 then to else g.2) - if g.1 < off then off else g.1).toNat).length ≤ ((if to < g.2 then to else g.2) - if g.1 < off then off else g.1).toNat := by
        unfold bpart; rw [List.length_take]; omega
      refine Nat.le_trans (Nat.add_le_add_left hle _) ?_
      split <;> split <;> omega
theorem buf1_get {b : List Int} {g : Int × Int} (h0 : 0 ≤ off) (h1 : off + d.length = to) (hb : to ≤ b.length) (h2 : 0 ≤ g.1) (h3 : g.1 < g.2) (p : Nat) :
    (buf1 off to d b g)[p]? = if g.1 ≤ p ∧ p < g.2 ∧ off ≤ p ∧ p < to then d[p - off.toNat]? else b[p]? := by
  unfold buf1
  by_cases c1 : to ≤ g.1
  · rw [if_pos c1, if_neg (by omega)]
  rw [if_neg c1]
  by_cases c2 : g.2 ≤ off
  · rw [if_pos c2, if_neg (by omega)]
  rw [if_neg c2]
  have e1 : off ≤ gLo off g ∧ g.1 ≤ gLo off g ∧ (gLo off g = off ∨ gLo off g = g.1) := by unfold gLo; split <;> omega
  have e2 : gHi to g ≤ to ∧ gHi to g ≤ g.2 ∧ (gHi to g = to ∨ gHi to g = g.2) := by unfold gHi; split <;> omega
  have hl : (bpart d (gLo off g - off).toNat (gHi to g - gLo off g).toNat).length = (gHi to g - gLo off g).toNat := bpart_len (by omega)
  rw [lay1_get (by rw [hl]; omega), hl]
  by_cases c3 : (gLo off g).toNat ≤ p ∧ p < (gLo off g).toNat + (gHi to g - gLo off g).toNat
  · rw [if_pos c3, if_pos (by omega)]
    unfold bpart
    rw [List.getElem?_take, if_pos (by omega), List.getElem?_drop]
    congr 1; omega
  · rw [if_neg c3, if_neg (by omega)]
theorem bufN_len (h0 : 0 ≤ off) (h1 : off + d.length = to) : ∀ {gs : List (Int × Int)} {b : List Int}, to ≤ b.length → (∀ g ∈ gs, 0 ≤ g.1 ∧ g.1 < g.2) → (bufN off to d b gs).length = b.length
  | [], _, _, _ => rfl
  | g :: r, b, hb, hg => by
    have h2 := hg g (by simp)
    have hl := buf1_len (b := b) h0 h1 hb h2.1 h2.2
    simp only [bufN]
    rw [bufN_len h0 h1 (by rw [hl]; exact hb) fun x hx => hg x (by simp [hx]), hl]
theorem bufN_get (h0 : 0 ≤ off) (h1 : off + d.length = to) (p : Nat) : ∀ {gs : List (Int × Int)} {b : List Int}, to ≤ b.length → (∀ g ∈ gs, 0 ≤ g.1 ∧ g.1 < g.2) →
    ((Miss gs p ∧ off ≤ p ∧ p < to) → (bufN off to d b gs)[p]? = d[p - off.toNat]?) ∧ (¬ (Miss gs p ∧ off ≤ p ∧ p < to) → (bufN off to d b gs)[p]? = b[p]?)
  | [], _, _, _ => ⟨fun ⟨⟨g, hg, _⟩, _⟩ => (by cases hg), fun _ => rfl⟩
  | g :: r, b, hb, hg => by
    have h2 := hg g (by simp)
    have hl := buf1_len (b := b) h0 h1 hb h2.1 h2.2
    have ih := bufN_get h0 h1 p (gs := r) (b := buf1 off to d b g) (by rw [hl]; exact hb) fun x hx => hg x (by simp [hx])
    have hb1 := buf1_get (b := b) h0 h1 hb h2.1 h2.2 p
    simp only [bufN]
    by_cases hm : Miss r p ∧ off ≤ p ∧ p < to
    · refine ⟨fun _ => ih.1 hm, fun hn => absurd ⟨?_, hm.2⟩ hn⟩
      obtain ⟨x, hx, h3⟩ := hm.1
      exact ⟨x, by simp [hx], h3⟩
    · rw [ih.2 hm, hb1]
      by_cases hp : g.1 ≤ p ∧ p < g.2 ∧ off ≤ p ∧ p < to
      · rw [if_pos hp]
        exact ⟨fun _ => rfl, fun hn => absurd ⟨⟨g, by simp, by omega⟩, by omega⟩ hn⟩
      · rw [if_neg hp]
        refine ⟨fun ⟨⟨x, hx, h3⟩, h4⟩ => ?_, fun _ => rfl⟩
        rcases List.mem_cons.1 hx with rfl | hx
        · exact absurd ⟨h3.1, h3.2, h4⟩ hp
        · exact absurd ⟨⟨x, hx, h3⟩, h4⟩ hm
end
theorem zpad_len (b : List Int) (to : Nat) : (zpad b to).length = max b.length to := by unfold zpad; simp; omega
end Go.Eng
/- Chapter 11 by value, on: what is kept when a piece is laid in. Of no program. -/
namespace Go.Eng
open Go Go.RowKit
section
variable {s : HolS} {off to hi : Int} {d : List Int} {more : Bool} {gs : List (Int × Int)}
theorem gs_all {lo : Int} (h : Gs lo hi gs) (h0 : 0 ≤ lo) : ∀ g ∈ gs, 0 ≤ g.1 ∧ g.1 < g.2 := fun g hg => by have := h.mem hg; omega
theorem refused_ok (h : refusedS s off d.length more = 0) : 0 ≤ off ∧ off % 8 = 0 ∧ 0 < d.length ∧ off + d.length ≤ s.max ∧ (more = true → (d.length : Int) % 8 = 0) ∧
    (0 ≤ s.fin → more = false → off + d.length = s.fin) ∧ (0 ≤ s.fin → more = true → off + d.length ≤ s.fin) ∧ (s.fin < 0 → more = false → topS s.gaps s.max ≤ off + d.length) := by
  unfold refusedS at h
  split at h
  · cases h
  split at h
  · cases h
  split at h
  · cases h
  split at h
  · cases h
  split at h
  · cases h
  split at h
  · cases h
  split at h
  · cases h
  rename_i h1 h2 h3 h4 h5 h6 h7
  refine ⟨by omega, by omega, by omega, by omega, fun hm => ?_, fun hf hm => ?_, fun hf hm => ?_, fun hf hm => ?_⟩
  · exact Classical.byContradiction fun hn => h2 (.inr (.inr ⟨hm, hn⟩))
  · exact Classical.byContradiction fun hn => h5 ⟨hf, hm, hn⟩
  · exact Int.not_lt.1 fun hn => h6 ⟨hf, hm, hn⟩
  · exact Int.not_lt.1 fun hn => h7 ⟨hf, hm, hn⟩
theorem Gs.split {gs : List (Int × Int)} {g : Int × Int} : ∀ {l : List (Int × Int)} {lo : Int}, l = gs ++ [g] → Gs lo hi l → lo ≤ g.1 ∧ g.1 < g.2 ∧ g.2 ≤ hi ∧ Gs lo (g.1 - 1) gs := by
  induction gs with
  | nil =>
    intro l lo hl h
    subst hl
    exact ⟨h.1, h.2.1, h.2.2.1, trivial⟩
  | cons x r ih =>
    intro l lo hl h
    subst hl
    have := ih rfl h.2.2.2
    have h1 := h.1
    have h2 := h.2.1
    exact ⟨by omega, this.2.1, this.2.2.1, h.1, h.2.1, by omega, this.2.2.2⟩
theorem Gs.snoc {g : Int × Int} : ∀ {gs : List (Int × Int)} {lo : Int}, Gs lo (g.1 - 1) gs → lo ≤ g.1 → g.1 < g.2 → g.2 ≤ hi → Gs lo hi (gs ++ [g])
  | [], _, _, h1, h2, h3 => ⟨h1, h2, h3, trivial⟩
  | x :: r, lo, h, h1, h2, h3 => ⟨h.1, h.2.1, by have := h.2.2.1; omega, h.2.2.2.snoc (by have := h.2.2.1; omega) h2 h3⟩
/-- Where no more than the last gap comes up to the end that is told now. -/
theorem top_le {max : Int} (h : Gs 0 max gs) (ht : topS gs max ≤ to) : max ≤ to ∨ ∃ l g, gs = l ++ [g] ∧ g.2 = max ∧ g.1 ≤ to ∧ Gs 0 (g.1 - 1) l := by
  unfold topS at ht
  cases hl : gs.getLast? with
  | none => rw [hl] at ht; exact .inl ht
  | some g =>
    rw [hl] at ht
    simp only at ht
    obtain ⟨l, hgl⟩ := List.getLast?_eq_some_iff.1 hl
    split at ht
    · rename_i h2
      have := Gs.split hgl h
      exact .inr ⟨l, g, hgl, h2, ht, this.2.2.2⟩
    · exact .inl ht
theorem end_gs {max : Int} (h0 : off < to) (_ho : 0 ≤ off) (hto : to ≤ max) (h : Gs 0 max gs) (ht : topS gs max ≤ to) :
    Gs 0 to (endG (gs.flatMap (cutG off to)) max to) ∧ ∀ p, Miss (endG (gs.flatMap (cutG off to)) max to) p ↔ Miss gs p ∧ ¬ (off ≤ p ∧ p < to) ∧ p < to := by
  have hc := cuts_gs h0 h
  have hcm : ∀ p, Miss (gs.flatMap (cutG off to)) p ↔ Miss gs p ∧ ¬ (off ≤ p ∧ p < to) := fun p => cuts_miss h0
  rcases top_le h ht with hm | ⟨l, g, rfl, h2, h1, hl⟩
  · have : to = max := by omega
    subst this
    have e : endG (gs.flatMap (cutG off to)) to to = gs.flatMap (cutG off to) := by
      unfold endG
      split
      · rfl
      · rename_i x hx
        obtain ⟨l, hgl⟩ := List.getLast?_eq_some_iff.1 hx
        have := Gs.split hgl hc
        split
        · rename_i h3
          rw [if_neg (by omega), hgl, List.dropLast_concat, ← h3]
        · rfl
    rw [e]
    exact ⟨hc, fun p => by
      rw [hcm p]
      exact ⟨fun h4 => ⟨h4.1, h4.2, (hc.miss ((hcm p).2 h4)).2⟩, fun h4 => ⟨h4.1, h4.2.1⟩⟩⟩
  · have hg := Gs.split rfl h
    have hlc := cuts_gs h0 (hl.upper (hi' := g.1 - 1) (Int.le_refl _))
    by_cases hmt : to = max
    · subst hmt
      rw [List.flatMap_append] at hc hcm ⊢
      have e : endG (l.flatMap (cutG off to) ++ [g].flatMap (cutG off to)) to to = l.flatMap (cutG off to) ++ [g].flatMap (cutG off to) := by
        unfold endG
        split
        · rfl
        · rename_i x hx
          obtain ⟨l', hgl⟩ := List.getLast?_eq_some_iff.1 hx
          have := Gs.split hgl hc
          split
          · rename_i h3
            rw [if_neg (by omega), hgl, List.dropLast_concat, ← h3]
          · rfl
      rw [e]
      exact ⟨hc, fun p => by
        rw [hcm p]
        exact ⟨fun h4 => ⟨h4.1, h4.2, (hc.miss ((hcm p).2 h4)).2⟩, fun h4 => ⟨h4.1, h4.2.1⟩⟩⟩
    · have key : ∃ a : List (Int × Int), (l ++ [g]).flatMap (cutG off to) = a ++ [(to, max)] ∧ Gs 0 to a := by
        rw [List.flatMap_append, List.flatMap_cons, List.flatMap_nil, List.append_nil]
        have hcg : cutG off to g = (if g.1 < off then [(g.1, off)] else []) ++ [(to, max)] := by
          unfold cutG gLo gHi
          by_cases c1 : to ≤ g.1
          · rw [if_pos c1, if_neg (by omega)]
            have : to = g.1 := by omega
            rw [this, ← h2]; rfl
          · rw [if_neg c1, if_neg (by omega)]
            have c4 : to < max := by omega
            by_cases c3 : g.1 < off <;> simp [c3, c4, h2]
        refine ⟨l.flatMap (cutG off to) ++ (if g.1 < off then [(g.1, off)] else []), by rw [hcg, List.append_assoc], ?_⟩
        by_cases c3 : g.1 < off
        · rw [if_pos c3]
          exact Gs.snoc (g := (g.1, off)) hlc hg.1 c3 (by show off ≤ to; omega)
        · rw [if_neg c3, List.append_nil]
          exact hlc.upper (by omega)
      obtain ⟨a, ha, hga⟩ := key
      have e : endG ((l ++ [g]).flatMap (cutG off to)) max to = a := by
        rw [ha]
        unfold endG
        rw [List.getLast?_concat]
        simp
      rw [e]
      refine ⟨hga, fun p => ?_⟩
      constructor
      · intro hp
        have h3 := hga.miss hp
        have h4 := (hcm p).1 (by
          rw [ha]
          obtain ⟨x, hx, h5⟩ := hp
          exact ⟨x, by simp [hx], h5⟩)
        exact ⟨h4.1, h4.2, h3.2⟩
      · rintro ⟨h3, h4, h5⟩
        have := (hcm p).2 ⟨h3, h4⟩
        rw [ha] at this
        obtain ⟨x, hx, h6⟩ := this
        rcases List.mem_append.1 hx with hx | hx
        · exact ⟨x, hx, h6⟩
        · simp at hx; subst hx
          have : to ≤ p := h6.1
          omega
theorem bts_zpad {b : List Int} (h : Bts b) (to : Nat) : Bts (zpad b to) := fun x hx => by
  unfold zpad at hx
  rcases List.mem_append.1 hx with hx | hx
  · exact h x hx
  · rw [(List.mem_replicate.1 hx).2]; omega
theorem bts_get {b : List Int} (h : ∀ (i : Nat) (x : Int), b[i]? = some x → 0 ≤ x ∧ x < 256) : Bts b := fun x hx => by
  obtain ⟨i, hi, rfl⟩ := List.getElem_of_mem hx
  exact h i _ (List.getElem?_eq_getElem hi)
theorem put_ok (h : HolOk s) (hB : Bts d) (hr : refusedS s off d.length more = 0) : HolOk (putS s off d more) ∧ ((putS s off d more).buf.length = max s.buf.length (off + d.length).toNat) ∧
    (∀ p : Int, Miss (putS s off d more).gaps p ↔ Miss s.gaps p ∧ ¬ (off ≤ p ∧ p < off + d.length) ∧ (more = false → s.fin < 0 → p < off + d.length)) ∧
    (∀ p : Nat, (Miss s.gaps p ∧ off ≤ p ∧ p < off + d.length → (putS s off d more).buf[p]? = d[p - off.toNat]?) ∧ (¬ (Miss s.gaps p ∧ off ≤ p ∧ p < off + d.length) → (putS s off d more).buf[p]? = (zpad s.buf (off + d.length).toNat)[p]?)) := by
  obtain ⟨h1, h2, h3, h4, h5, h6, h7, h8⟩ := refused_ok hr
  have hga := gs_all h.gs (Int.le_refl _)
  have hz := zpad_len s.buf (off + d.length).toNat
  have hlen := bufN_len h1 (rfl : off + (d.length : Int) = off + d.length) (gs := s.gaps) (b := zpad s.buf (off + d.length).toNat) (by omega) hga
  have hget := fun p => bufN_get h1 (rfl : off + (d.length : Int) = off + d.length) p (gs := s.gaps) (b := zpad s.buf (off + d.length).toNat) (by omega) hga
  have hm1 := h.m1
  have hm2 := h.m2
  have hbl := h.blen
  refine ⟨⟨hm1, hm2, ?_, ?_, ?_, ?_⟩, by show (bufN _ _ _ _ _).length = _; rw [hlen, hz], ?_, hget⟩
  · refine bts_get fun i x hx => ?_
    by_cases hc : Miss s.gaps i ∧ off ≤ i ∧ i < off + d.length
    · have := (hget i).1 hc
      have hx : (bufN off (off + d.length) d (zpad s.buf (off + d.length).toNat) s.gaps)[i]? = some x := hx
      rw [this] at hx
      exact hB x (List.mem_of_getElem? hx)
    · have := (hget i).2 hc
      have hx : (bufN off (off + d.length) d (zpad s.buf (off + d.length).toNat) s.gaps)[i]? = some x := hx
      rw [this] at hx
      exact bts_zpad h.bts _ x (List.mem_of_getElem? hx)
  · show ((bufN off (off + d.length) d (zpad s.buf (off + d.length).toNat) s.gaps).length : Int) ≤ s.max
    rw [hlen, hz]
    omega
  · show (if more = false ∧ s.fin < 0 then off + (d.length : Int) else s.fin) = -1 ∨ _ ∧ _ ∧ (if more = false ∧ s.fin < 0 then off + (d.length : Int) else s.fin) ≤ ((bufN off (off + d.length) d (zpad s.buf (off + d.length).toNat) s.gaps).length : Int)
    rw [hlen, hz]
    have := h.fin
    split
    · refine .inr ⟨?_, ?_, ?_⟩
      · show 0 ≤ (if more = false ∧ s.fin < 0 then off + (d.length : Int) else s.fin); rename_i hc; rw [if_pos hc]; omega
      · show (if more = false ∧ s.fin < 0 then off + (d.length : Int) else s.fin) ≤ s.max; rename_i hc; rw [if_pos hc]; omega
      · omega
    · rename_i hc
      rcases this with h9 | h9
      · exact .inl h9
      · refine .inr ⟨?_, ?_, by omega⟩
        · show 0 ≤ (if more = false ∧ s.fin < 0 then off + (d.length : Int) else s.fin); rw [if_neg hc]; omega
        · show (if more = false ∧ s.fin < 0 then off + (d.length : Int) else s.fin) ≤ s.max; rw [if_neg hc]; omega
  · show Gs 0 (if (if more = false ∧ s.fin < 0 then off + (d.length : Int) else s.fin) < 0 then s.max else (if more = false ∧ s.fin < 0 then off + (d.length : Int) else s.fin)) (if more = false ∧ s.fin < 0 then endG (s.gaps.flatMap (cutG off (off + d.length))) s.max (off + d.length) else s.gaps.flatMap (cutG off (off + d.length)))
    by_cases hc : more = false ∧ s.fin < 0
    · rw [if_pos hc, if_pos hc, if_neg (by omega)]
      have hg := h.gs
      rw [if_pos hc.2] at hg
      exact (end_gs (by omega) h1 h4 hg (h8 hc.2 hc.1)).1
    · rw [if_neg hc, if_neg hc]
      exact cuts_gs (by omega) h.gs
  · intro p
    show Miss (if more = false ∧ s.fin < 0 then endG (s.gaps.flatMap (cutG off (off + d.length))) s.max (off + d.length) else s.gaps.flatMap (cutG off (off + d.length))) p ↔ _
    by_cases hc : more = false ∧ s.fin < 0
    · rw [if_pos hc]
      have hg := h.gs
      rw [if_pos hc.2] at hg
      rw [(end_gs (by omega) h1 h4 hg (h8 hc.2 hc.1)).2 p]
      exact ⟨fun ⟨a, b, c⟩ => ⟨a, b, fun _ _ => c⟩, fun ⟨a, b, c⟩ => ⟨a, b, c hc.1 hc.2⟩⟩
    · rw [if_neg hc, cuts_miss (by omega)]
      exact ⟨fun ⟨a, b⟩ => ⟨a, b, fun x y => absurd ⟨x, y⟩ hc⟩, fun ⟨a, b, _⟩ => ⟨a, b⟩⟩
end
end Go.Eng
/- Maps as parts of memory: what is looked up, laid in, struck out, ranged over. It speaks of any program. -/
namespace Go.Eng
open Go Go.RowKit
/-- Permutations, by counting. -/
theorem perm_cn {α : Type} {l1 l2 : List α} (h : ∀ (c : List α → Nat) (o : α → Nat), (∀ l l', c (l ++ l') = c l + c l') → (∀ x l, c (x :: l) = o x + c l) → c [] = 0 → c l1 = c l2) : l1.Perm l2 := by
  classical
  refine List.perm_iff_count.2 fun a => h (List.count a) (fun x => if x == a then 1 else 0) (fun l l' => List.count_append) (fun x l => ?_) List.count_nil
  rw [List.count_cons]; omega
/-- The blocks of some parts. -/
def Blocks (Δ : List Fct) (k : Nat) : Prop := ∃ f ∈ Δ, f.R k
section
variable {w0 w w' : World} {Γ Γ' Δ Δ' : List Fct} {f g : Fct}
theorem Sep.begins (H : Sep Δ w) : Sep (Fct.rest w (Blocks Δ) :: Δ) w := by
  have h := Sep.iff.1 H
  refine Sep.iff.2 ⟨fun f hf => ?_, List.pairwise_cons.2 ⟨fun f hf k h1 h2 => h1.2 ⟨f, hf, h2⟩, h.2⟩⟩
  rcases List.mem_cons.1 hf with rfl | hf
  · exact ⟨Mod.refl _ _, fun k hk => hk.1⟩
  · exact h.1 f hf
/-- What is apart from the parts that change stays. -/
theorem Sep.keep (H : Sep (Γ ++ Δ) w) (hm : Mod (Blocks Δ) w w') : Sep Γ w' := by
  have h := Sep.iff.1 H
  have hp := List.pairwise_append.1 h.2
  refine Sep.iff.2 ⟨fun f hf => ?_, hp.1⟩
  have hf' := h.1 f (List.mem_append_left _ hf)
  exact ⟨f.st (Blocks Δ) w w' hf'.1 hf'.2 hm fun k hk ⟨g, hg, hgk⟩ => hp.2.2 f hf g hg k hk hgk, fun k hk => Nat.lt_of_lt_of_le (hf'.2 k hk) hm.size⟩
/-- A call that turns some parts into others. -/
theorem Sep.turn (H : Sep (Γ ++ Δ) w) (h : Sep (Fct.rest w (Blocks Δ) :: Δ') w') : Sep (Γ ++ Δ') w' := by
  have hm : Mod (Blocks Δ) w w' := h.restOf 0 rfl
  have hk := H.keep hm
  have h0 := Sep.iff.1 H
  have hp := List.pairwise_append.1 h0.2
  have h1 := Sep.iff.1 hk
  have h2 := Sep.iff.1 h
  have hc := List.pairwise_cons.1 h2.2
  refine Sep.iff.2 ⟨fun f hf => ?_, List.pairwise_append.2 ⟨h1.2, hc.2, fun f hf g hg k hkf hkg => ?_⟩⟩
  · rcases List.mem_append.1 hf with hf | hf
    · exact h1.1 f hf
    · exact h2.1 f (List.mem_cons_of_mem _ hf)
  · refine hc.1 g hg k ⟨(h0.1 f (List.mem_append_left _ hf)).2 k hkf, fun ⟨x, hx, hxk⟩ => hp.2.2 f hf x hx k hkf hxk⟩ hkg
theorem Blocks.append {k : Nat} : Blocks (Γ ++ Δ) k ↔ Blocks Γ k ∨ Blocks Δ k := by
  constructor
  · rintro ⟨f, hf, hk⟩
    rcases List.mem_append.1 hf with hf | hf
    · exact .inl ⟨f, hf, hk⟩
    · exact .inr ⟨f, hf, hk⟩
  · rintro (⟨f, hf, hk⟩ | ⟨f, hf, hk⟩)
    · exact ⟨f, List.mem_append_left _ hf, hk⟩
    · exact ⟨f, List.mem_append_right _ hf, hk⟩
end
/-! ### Maps -/
structure MapIs (es : Array MapEntry) (clock : Nat) (kvs : List (Value × Value)) : Prop where
  kv : es.toList.map (fun e => (e.key, e.val)) = kvs
  born : ∀ e ∈ es.toList, e.born < clock
  nodup : (es.toList.map (·.born)).Nodup
def MapAt (w : World) (g : Nat) (kvs : List (Value × Value)) : Prop := ∃ es clock, w.heap[g]? = some (.map es clock) ∧ MapIs es clock kvs
theorem heap_lt {w : World} {g : Nat} {o : Obj} (h : w.heap[g]? = some o) : g < w.heap.size := (Array.getElem?_eq_some_iff.1 h).1
def Fct.mp (g : Nat) (kvs : List (Value × Value)) : Fct := ⟨fun k => k = g, fun w => MapAt w g kvs, fun _ _ _ ⟨es, c, h, hi⟩ _ hm hn => ⟨es, c, (hm.block g (heap_lt h) (hn g rfl)).trans h, hi⟩⟩
/-- The keys of a map: values of a type whose equality is decided so. -/
structure KeyOk (P : Program) (kt : TypeId) {α : Type} (enc : α → Value) (eqb : α → α → Bool) : Prop where
  wide : (match P.underlying kt with | some (.array _ _) | some (.struct _) => true | _ => false) = true
  check : ∀ (x : α) (em : Bool) (w : World), (Instr.checkKey em 10000 kt (enc x)).run P w = .ok () w
  eq : ∀ (x y : α) (w : World), (Op.equal kt (enc x) (enc y)).run P w = .ok (eqb x y) w
  same : ∀ x y, eqb x y = true ↔ x = y
  bits : ∀ x, Instr.sameBits 10000 (enc x) (enc x) = true
section
variable {α : Type} {eqb : α → α → Bool}
def findS (eqb : α → α → Bool) (x : α) : List (α × Value) → Nat → Option (Nat × Value)
  | [], _ => none
  | p :: l, i => if eqb x p.1 then some (i, p.2) else findS eqb x l (i + 1)
theorem findS_at {x : α} : ∀ {l : List (α × Value)} {i j : Nat} {v : Value}, findS eqb x l i = some (j, v) → ∃ k y, j = i + k ∧ l[k]? = some (y, v) ∧ eqb x y = true ∧ ∀ m, m < k → ∀ z, l[m]? = some z → eqb x z.1 = false
  | [], i, j, v, h => by simp [findS] at h
  | p :: l, i, j, v, h => by
    simp only [findS] at h
    cases hb : eqb x p.1 with
    | true =>
      rw [hb, if_pos rfl] at h
      injection h with h; injection h with h1 h2
      exact ⟨0, p.1, by omega, by simp [← h2], hb, fun m hm => by omega⟩
    | false =>
      rw [hb, if_neg (by simp)] at h
      obtain ⟨k, y, hk, hy, he, hn⟩ := findS_at h
      refine ⟨k + 1, y, by omega, by simpa using hy, he, fun m hm z hz => ?_⟩
      cases m with
      | zero => simp at hz; subst hz; exact hb
      | succ m => exact hn m (by omega) z (by simpa using hz)
def mget (eqb : α → α → Bool) (x : α) (l : List (α × Value)) : Option Value := (findS eqb x l 0).map (·.2)
def mset (eqb : α → α → Bool) (x : α) (v : Value) (l : List (α × Value)) : List (α × Value) :=
  match findS eqb x l 0 with
  | some (i, _) => l.set i (x, v)
  | none => l ++ [(x, v)]
def mdel (eqb : α → α → Bool) (x : α) (l : List (α × Value)) : List (α × Value) :=
  match findS eqb x l 0 with
  | some (i, _) => l.eraseIdx i
  | none => l
/-- A map's pairs as they lie there. -/
def kvs (enc : α → Value) (l : List (α × Value)) : List (Value × Value) := l.map fun p => (enc p.1, p.2)
variable {P : Program} {kt e t : TypeId} {enc : α → Value} {w w' : World} {g : Nat} {l : List (α × Value)}
theorem run_asking (K : KeyOk P kt enc eqb) (x : α) (w : World) : ∀ (es : List MapEntry) (l : List (α × Value)) (i : Nat), es.map (fun e => (e.key, e.val)) = kvs enc l → (Instr.findAsking kt (enc x) es i).run P w = .ok (findS eqb x l i) w
  | [], l, i, h => by
    cases l with
    | nil => simp [Instr.findAsking, findS]
    | cons p l => simp [kvs] at h
  | c :: es, l, i, h => by
    cases l with
    | nil => simp [kvs] at h
    | cons p l =>
      simp only [kvs, List.map_cons, List.cons.injEq, Prod.mk.injEq] at h
      obtain ⟨⟨h1, h2⟩, h3⟩ := h
      simp only [Instr.findAsking, findS, Sem.run_bind, h1, K.eq, Result.andThen_ok]
      cases hb : eqb x p.1 with
      | true => simp [h2]
      | false => simpa using run_asking K x w es l (i + 1) h3
theorem run_find (K : KeyOk P kt enc eqb) (x : α) (w : World) {es : Array MapEntry} {clock : Nat} (h : MapIs es clock (kvs enc l)) : (Instr.findKey kt (enc x) es.toList).run P w = .ok (findS eqb x l 0) w := by
  rw [run_findKey_eq w K.wide]
  exact run_asking K x w es.toList l 0 h.kv
theorem run_look (K : KeyOk P kt enc eqb) (ht : P.underlying t = some (.map kt e)) {z : Value} (hz : zr P e = some z) (x : α) (ok : Bool) (h : MapAt w g (kvs enc l)) :
    (Instr.lookup t (.map (some g)) (enc x) ok).run P w = .ok (if ok then .tuple #[(mget eqb x l).getD z, .bool (mget eqb x l).isSome] else (mget eqb x l).getD z) w := by
  obtain ⟨es, clock, hb, hi⟩ := h
  unfold mget
  simp only [Instr.lookup, Sem.run_bind, run_underlying ht, Result.andThen_ok, MapKept.run_getObj_map hb, Sem.run_pure, K.check, run_find K x w hi]
  cases findS eqb x l 0 with
  | none => simp [run_zero hz]
  | some p => simp
theorem run_len (ht : P.underlying t = some (.map kt e)) (ty : TypeId) (h : MapAt w g (kvs enc l)) : (Builtin.len_ #[t] ty #[.map (some g)]).run P w = .ok (.int .i64 (l.length : Int)) w := by
  obtain ⟨es, clock, hb, hi⟩ := h
  have : es.size = l.length := by have := congrArg List.length hi.kv; simpa [kvs] using this
  simp [Builtin.len_, run_underlying ht, MapKept.run_getObj_map hb, this, goInt]
theorem mp_set {α β : Type} (f : α → β) : ∀ (l : List α) (i : Nat) (x : α), (l.set i x).map f = (l.map f).set i (f x)
  | [], _, _ => rfl
  | _ :: _, 0, _ => rfl
  | y :: l, i + 1, x => by simp [mp_set f l i x]
theorem mp_erase {α β : Type} (f : α → β) : ∀ (l : List α) (i : Nat), (l.eraseIdx i).map f = (l.map f).eraseIdx i
  | [], _ => rfl
  | _ :: _, 0 => rfl
  | y :: l, i + 1 => by simp [mp_erase f l i]
def setH (w : World) (g : Nat) (o : Obj) : World := { w with heap := w.heap.setIfInBounds g o }
theorem Mod.setH (w : World) (g : Nat) {o : Obj} (o' : Obj) (hb : w.heap[g]? = some o) : Mod (fun k => k = g) w (setH w g o') :=
  ⟨rfl, rfl, rfl, by unfold Eng.setH; simp, fun k _ hn => (MapKept.heap_set (o' := o') hb).2 k hn⟩
theorem setH_at {o : Obj} (o' : Obj) (hb : w.heap[g]? = some o) : (setH w g o').heap[g]? = some o' := (MapKept.heap_set (o' := o') hb).1
theorem run_setH {es : Array MapEntry} {clock : Nat} (o : Obj) (hb : w.heap[g]? = some (.map es clock)) : (setObj g o).run P w = .ok () (setH w g o) := MapKept.run_setObj_map o hb
/-- One entry is laid in. -/
theorem MapSetVC.sep {Γ : List Fct} {F : World → Prop} (H : Sep Γ w) (i : Nat) (K : KeyOk P kt enc eqb) (ht : P.underlying t = some (.map kt e)) (hi : Γ[i]? = some (Fct.mp g (kvs enc l))) (x : α) (v : Value)
    (h : ∀ w', Sep (Γ.set i (Fct.mp g (kvs enc (mset eqb x v l)))) w' → F w') : MapSetVC P t (.map (some g)) (enc x) v w F := by
  obtain ⟨es, clock, hb, hm⟩ := H.yes i _ hi
  have hlt := heap_lt hb
  have fin : ∀ (es' : Array MapEntry) (c' : Nat), MapIs es' c' (kvs enc (mset eqb x v l)) → F (setH w g (.map es' c')) := fun es' c' hm' =>
    h _ (H.mod i hi (Mod.setH w g (.map es' c') hb) (fun k _ hk => hk) (Fct.mp g (kvs enc (mset eqb x v l))) ⟨es', c', setH_at _ hb, hm'⟩ fun k hk => .inl hk)
  unfold mset at fin
  cases hf : findS eqb x l 0 with
  | none =>
    rw [hf] at fin
    refine ⟨_, ?_, fin (es.push { key := enc x, val := v, born := clock }) (clock + 1) ⟨?_, ?_, ?_⟩⟩
    · simp only [Instr.mapUpdate, Sem.run_bind, run_underlying ht, Result.andThen_ok, MapKept.run_getObj_map hb, K.check, run_find K x w hm, hf]
      exact run_setH _ hb
    · simp [hm.kv, kvs]
    · intro e he
      rw [Array.toList_push] at he
      rcases List.mem_append.1 he with he | he
      · have := hm.born e he; omega
      · simp at he; subst he; show clock < clock + 1; omega
    · rw [Array.toList_push, List.map_append]
      refine List.nodup_append.2 ⟨hm.nodup, by simp, fun a ha b hb' => ?_⟩
      obtain ⟨e, he, rfl⟩ := List.mem_map.1 ha
      simp at hb'; subst hb'
      have := hm.born e he
      omega
  | some p =>
    obtain ⟨j, u⟩ := p
    rw [hf] at fin
    obtain ⟨k, y, hk, hy, he, _⟩ := findS_at hf
    have hjk : j = k := by omega
    subst hjk
    have hxy := (K.same x y).1 he
    subst hxy
    have hle : j < es.size := by
      have h1 : j < l.length := (List.getElem?_eq_some_iff.1 hy).1
      have := congrArg List.length hm.kv
      simp [kvs] at this; omega
    have hkey : es[j].key = enc x := by
      have h1 := congrArg (fun q => q[j]?) hm.kv
      simp only [kvs, List.getElem?_map, hy, Array.getElem?_toList, Array.getElem?_eq_getElem hle, Option.map_some, Option.some.injEq, Prod.mk.injEq] at h1
      exact h1.1
    have hst : (Instr.keyThatStays (((es[j]?).map (·.key)).getD (enc x)) (enc x)).run P w = .ok (enc x) w := by
      rw [Array.getElem?_eq_getElem hle, Option.map_some, Option.getD_some, hkey]
      simp [Instr.keyThatStays, K.bits]
    have e1 : (es.modify j fun e => { e with key := enc x, val := v }).toList = es.toList.set j { es[j] with key := enc x, val := v } := by
      apply List.ext_getElem?
      intro m
      simp only [Array.getElem?_toList, Array.getElem?_modify, List.getElem?_set]
      by_cases hm' : j = m
      · subst hm'; simp [hle]
      · simp [hm']
    have e2 : (es.toList.set j { es[j] with key := enc x, val := v }).map (·.born) = es.toList.map (·.born) := by
      rw [mp_set]
      apply List.ext_getElem?
      intro m
      simp only [List.getElem?_set, List.getElem?_map, List.length_map, Array.length_toList, Array.getElem?_toList]
      by_cases hm' : j = m
      · subst hm'; simp [hle]
      · simp [hm']
    refine ⟨_, ?_, fin (es.modify j fun e => { e with key := enc x, val := v }) clock ⟨?_, ?_, ?_⟩⟩
    · simp only [Instr.mapUpdate, Sem.run_bind, run_underlying ht, Result.andThen_ok, MapKept.run_getObj_map hb, K.check, run_find K x w hm, hf]
      exact (congrArg (Result.andThen · _) hst).trans (run_setH _ hb)
    · rw [e1, mp_set, hm.kv]
      unfold kvs
      rw [mp_set]
    · intro c hc
      have : c.born ∈ es.toList.map (·.born) := by rw [← e2, ← e1]; exact List.mem_map.2 ⟨c, hc, rfl⟩
      obtain ⟨d, hd, hdc⟩ := List.mem_map.1 this
      rw [← hdc]; exact hm.born d hd
    · rw [e1, e2]; exact hm.nodup
/-- One entry is struck out. -/
theorem DelVC.sep {Γ : List Fct} {F : World → Prop} {k2 ty : TypeId} (H : Sep Γ w) (i : Nat) (K : KeyOk P kt enc eqb) (ht : P.underlying t = some (.map kt e)) (hi : Γ[i]? = some (Fct.mp g (kvs enc l))) (x : α)
    (h : ∀ w', Sep (Γ.set i (Fct.mp g (kvs enc (mdel eqb x l)))) w' → F w') : DelVC P #[t, k2] ty (.map (some g)) (enc x) w F := by
  obtain ⟨es, clock, hb, hm⟩ := H.yes i _ hi
  have fin : ∀ (es' : Array MapEntry), MapIs es' clock (kvs enc (mdel eqb x l)) → F (setH w g (.map es' clock)) := fun es' hm' =>
    h _ (H.mod i hi (Mod.setH w g (.map es' clock) hb) (fun k _ hk => hk) (Fct.mp g (kvs enc (mdel eqb x l))) ⟨es', clock, setH_at _ hb, hm'⟩ fun k hk => .inl hk)
  unfold mdel at fin
  cases hf : findS eqb x l 0 with
  | none =>
    rw [hf] at fin
    refine ⟨_, ?_, fin es hm⟩
    simp only [Builtin.delete_, List.getElem?_toArray, List.getElem?_cons_zero, List.getElem?_cons_succ, Sem.run_bind, run_underlying ht, Result.andThen_ok, MapKept.run_getObj_map hb, K.check, run_find K x w hm, hf, run_setH _ hb, Sem.run_pure]
  | some p =>
    obtain ⟨j, u⟩ := p
    rw [hf] at fin
    obtain ⟨k, y, hk, hy, he, _⟩ := findS_at hf
    have hjk : j = k := by omega
    subst hjk
    have hle : j < es.size := by
      have h1 : j < l.length := (List.getElem?_eq_some_iff.1 hy).1
      have := congrArg List.length hm.kv
      simp [kvs] at this; omega
    have e1 : (es.eraseIdxIfInBounds j).toList = es.toList.eraseIdx j := by
      unfold Array.eraseIdxIfInBounds
      rw [dif_pos hle, Array.toList_eraseIdx]
    have hsub : (es.eraseIdxIfInBounds j).toList.Sublist es.toList := by rw [e1]; exact List.eraseIdx_sublist _ _
    refine ⟨_, ?_, fin (es.eraseIdxIfInBounds j) ⟨?_, fun c hc => hm.born c (hsub.subset hc), (hsub.map _).nodup hm.nodup⟩⟩
    · simp only [Builtin.delete_, List.getElem?_toArray, List.getElem?_cons_zero, List.getElem?_cons_succ, Sem.run_bind, run_underlying ht, Result.andThen_ok, MapKept.run_getObj_map hb, K.check, run_find K x w hm, hf, run_setH _ hb, Sem.run_pure]
    · rw [e1, mp_erase, hm.kv]
      unfold kvs
      rw [mp_erase]
theorem NewMapVC.sep {Γ : List Fct} {F : Nat → World → Prop} (H : Sep Γ w) (h : ∀ g w', Sep (Γ ++ [Fct.mp g []]) w' → F g w') : NewVC w (.map #[] 0) F :=
  NewVC.of fun g' w' hg hE hw => h g' w' (H.push hE (Fct.mp g' []) ⟨#[], 0, by subst hw; subst hg; exact (MapKept.heap_alloc w _).1, ⟨rfl, fun e he => by simp at he, by simp⟩⟩ fun k hk => by
    have : k = g' := hk
    subst this; subst hg; subst hw
    exact ⟨Nat.le_refl _, by simp⟩)
end
end Go.Eng
