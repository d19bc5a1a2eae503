/- Sums by ones' complement: the plain law of folding, and both programs' sums over parts. -/
import Derived.Test.YtjngdcilnipjcaaDoorC4i
import Derived.Test.YtjngdcilnipjcaaDoorGen
namespace Go.Eng
open Go Go.RowKit
/-- The sum of the bytes, each second one by 256. -/
def rawS : Bool → List Int → Int
  | _, [] => 0
  | true, b :: r => b * 256 + rawS false r
  | false, b :: r => b + rawS true r
def flipS (h : Bool) (n : Nat) : Bool := if n % 2 = 0 then h else !h
theorem flipS_zero (h : Bool) : flipS h 0 = h := rfl
theorem flipS_succ (h : Bool) (n : Nat) : flipS h (n + 1) = !(flipS h n) := by
  unfold flipS
  rcases Nat.mod_two_eq_zero_or_one n with e | e
  · rw [if_neg (by omega), if_pos e]
  · rw [if_pos (by omega), if_neg (by omega)]; simp
theorem flipS_add (h : Bool) (n m : Nat) : flipS (flipS h n) m = flipS h (n + m) := by
  induction m with
  | zero => rfl
  | succ m ih => rw [flipS_succ, ih, ← Nat.add_assoc, flipS_succ]
theorem rawS_append : ∀ (a b : List Int) (h : Bool), rawS h (a ++ b) = rawS h a + rawS (flipS h a.length) b
  | [], b, h => by simp [rawS, flipS_zero]
  | x :: r, b, true => by
    have e : flipS true (r.length + 1) = flipS false r.length := by rw [Nat.add_comm, ← flipS_add]; rfl
    simp only [List.cons_append, rawS, rawS_append r b false, List.length_cons, e]; omega
  | x :: r, b, false => by
    have e : flipS false (r.length + 1) = flipS true r.length := by rw [Nat.add_comm, ← flipS_add]; rfl
    simp only [List.cons_append, rawS, rawS_append r b true, List.length_cons, e]; omega
theorem rawS_bound : ∀ {l : List Int} (_ : Bts l) (h : Bool), 0 ≤ rawS h l ∧ rawS h l ≤ 65280 * l.length
  | [], _, _ => by simp [rawS]
  | x :: r, hb, true => by
    have h1 := hb x (by simp)
    have h2 := rawS_bound (fun y hy => hb y (by simp [hy])) false (l := r)
    simp only [rawS, List.length_cons]; omega
  | x :: r, hb, false => by
    have h1 := hb x (by simp)
    have h2 := rawS_bound (fun y hy => hb y (by simp [hy])) true (l := r)
    simp only [rawS, List.length_cons]; omega
theorem rawS_one (h : Bool) (x : Int) : rawS h [x] = if h then x * 256 else x := by cases h <;> simp [rawS]
theorem take_snocD (l : List Int) (k : Nat) (h : k < l.length) : l.take (k + 1) = l.take k ++ [l.getD k 0] := by
  rw [List.take_succ_eq_append_getElem h]; simp [h]
theorem rawS_take {l : List Int} {k : Nat} (h : Bool) (hk : k < l.length) : rawS h (l.take (k + 1)) = rawS h (l.take k) + if flipS h k then l.getD k 0 * 256 else l.getD k 0 := by
  rw [take_snocD l k hk, rawS_append, rawS_one, List.length_take, Nat.min_eq_left (by omega)]
/-- What a number folds to. -/
def foldS (n : Int) : Int := if n = 0 then 0 else (n - 1) % 65535 + 1
theorem foldS_small {n : Int} (h0 : 0 ≤ n) (h1 : n ≤ 65535) : foldS n = n := by unfold foldS; split <;> omega
theorem foldS_bound {n : Int} (_ : 0 ≤ n) : 0 ≤ foldS n ∧ foldS n ≤ 65535 := by unfold foldS; split <;> omega
theorem foldS_step {n : Int} (h : 65535 < n) : foldS (n % 65536 + n / 65536) = foldS n := by unfold foldS; split <;> split <;> omega
theorem foldS_add {a b : Int} (ha : 0 ≤ a) (hb : 0 ≤ b) : foldS (foldS a + b) = foldS (a + b) := by
  by_cases e : a = 0
  · subst e; simp [foldS]
  · have : foldS a = (a - 1) % 65535 + 1 := by unfold foldS; rw [if_neg e]
    rw [this]; unfold foldS; rw [if_neg (by omega), if_neg (by omega)]; omega
def sumS (l : List Int) : Int := foldS (rawS true l)

structure PartV where
  A : Option Addr
  n : Nat
  c : Nat
  bs : List Int
def PartV.val (p : PartV) : Value := .slice p.A p.n p.c
def groundS (ps : List PartV) : List Int := (ps.map PartV.bs).flatten
structure PartsAt (w : World) (PA : Option Addr) (ps : List PartV) : Prop where
  top : Cells w PA (ps.map PartV.val)
  each : ∀ p ∈ ps, Cells w p.A (p.bs.map (.int .u8)) ∧ p.bs.length = p.n ∧ Bts p.bs ∧ p.n ≤ 70000
theorem PartsAt.ext {w w' : World} {PA : Option Addr} {ps : List PartV} (h : PartsAt w PA ps) (hE : Ext w w') : PartsAt w' PA ps :=
  ⟨h.top.ext hE, fun p hp => ⟨(h.each p hp).1.ext hE, (h.each p hp).2⟩⟩
theorem PartsAt.read {w : World} {PA : Option Addr} {ps : List PartV} (h : PartsAt w PA ps) {i m : Nat} (hi : i < ps.length) (hm : ps.length = m) {F : Addr → Prop} (hF : ∀ a, w.cell? a = some (.slice ps[i].A ps[i].n ps[i].c) → F a) : IdxVC PA m 1 (i : Int) F :=
  IdxVC.of h.top (by omega) (by omega) (by simpa using hm) fun a _ ha => hF _ (by rw [ha]; simp [PartV.val])
theorem groundS_snoc (ps : List PartV) (p : PartV) : groundS (ps ++ [p]) = groundS ps ++ p.bs := by simp [groundS]
theorem groundS_take {ps : List PartV} {i : Nat} (hi : i < ps.length) : groundS (ps.take (i + 1)) = groundS (ps.take i) ++ ps[i].bs := by rw [List.take_succ_eq_append_getElem hi, groundS_snoc]
theorem groundS_bts {ps : List PartV} (h : ∀ p ∈ ps, Bts p.bs) : Bts (groundS ps) := by
  intro x hx
  obtain ⟨l, hl, hx⟩ := List.mem_flatten.1 hx
  obtain ⟨p, hp, rfl⟩ := List.mem_map.1 hl
  exact h p hp x hx
theorem groundS_len {ps : List PartV} {b : Nat} (h : ∀ p ∈ ps, p.bs.length ≤ b) : (groundS ps).length ≤ ps.length * b := by
  induction ps with
  | nil => simp [groundS]
  | cons p r ih =>
    have h1 := h p (by simp)
    have h2 := ih fun q hq => h q (by simp [hq])
    simp only [groundS, List.map_cons, List.flatten_cons, List.length_append, List.length_cons] at h2 ⊢
    rw [Nat.add_mul]; omega
theorem and_low {n : Int} (h0 : 0 ≤ n) (h1 : n < 4611686018427387904) : bitv .and .i64 n 65535 = n % 65536 := by
  obtain ⟨a, rfl⟩ := Int.eq_ofNat_of_zero_le h0
  have h1 : a < 4611686018427387904 := by omega
  unfold bitv
  have e : (BitVec.ofInt IntKind.i64.bits (a : Int) &&& BitVec.ofInt IntKind.i64.bits 65535).toNat = a % 65536 := by
    rw [BitVec.toNat_and]
    have e1 : (BitVec.ofInt IntKind.i64.bits (a : Int)).toNat = a := by
      show (BitVec.ofInt 64 (a : Int)).toNat = a
      simp; omega
    have e2 : (BitVec.ofInt IntKind.i64.bits 65535).toNat = 65535 := by decide
    rw [e1, e2]
    exact Nat.and_two_pow_sub_one_eq_mod a 16
  simp only
  rw [e, w64 (by omega) (by omega)]; omega
end Go.Eng
namespace Go.Proofs.YtjngdcilnipjcaaDoor
open Go.Eng Go.RowKit

theorem fold_spec {n : Int} {w : World} (h0 : 0 ≤ n) (h1 : n < 4611686018427387904) : Calls Tryd.prog 116 #[.int .i64 n] w fun e w' => w = w' ∧ e = .returned (.int .i64 (foldS n)) := by
  refine sum_fold_of n w _ ?_
  unfold sum_fold_VC
  refine LoopVC.of (fun s w' => w = w' ∧ 0 ≤ s ∧ s < 4611686018427387904 ∧ foldS s = foldS n) (fun s _ => s.toNat) ⟨rfl, h0, h1, rfl⟩ ?_
  rintro s w1 ⟨rfl, hs0, hs1, hs⟩
  unfold sum_fold_L12
  refine Br.dec (fun h => ?_) (fun h => ⟨rfl, by rw [← hs, foldS_small hs0 (by omega)]⟩)
  have e : Int.fdiv s 65536 = s / 65536 := by rw [Int.fdiv_eq_ediv_of_nonneg _ (by decide)]
  rw [and_low hs0 hs1, e, w64 (by omega) (by omega)]
  exact ⟨⟨rfl, by omega, by omega, by rw [foldS_step h, hs]⟩, by omega⟩
theorem folded_spec {n : Int} {w : World} (h0 : 0 ≤ n) (h1 : n < 4611686018427387904) : Calls Tryd.prog 117 #[.int .i64 n] w fun e w' => w = w' ∧ e = .returned (.int .i64 (foldS n)) := by
  refine weirref2_folded_of n w _ ?_
  unfold weirref2_folded_VC
  refine Br.dec (fun h => ⟨rfl, by subst h; rfl⟩) (fun h => ⟨rfl, ?_⟩)
  have e : Int.tmod (n - 1) 65535 = (n - 1) % 65535 := Int.tmod_eq_emod_of_nonneg (by omega)
  rw [w64 (n := n - 1) (by omega) (by omega), e, w64 (by omega) (by omega)]
  unfold foldS; rw [if_neg h]

section
variable {w : World} {PA : Option Addr} {m mc : Nat} {ps : List PartV}
set_option maxHeartbeats 1000000 in
theorem sum_spec (h : PartsAt w PA ps) (hm : ps.length = m) (hm2 : m ≤ 10) : Calls Tryd.prog 89 #[.slice PA m mc] w fun e w' => w = w' ∧ e = .returned (.int .i64 (sumS (groundS ps))) := by
  refine sum_Sum_of PA m mc w _ ?_
  unfold sum_Sum_VC
  have hB : ∀ i, Bts (groundS (ps.take i)) := fun i => groundS_bts fun p hp => (h.each p (List.mem_of_mem_take hp)).2.2.1
  refine LoopVC.of (fun s w' => w = w' ∧ ∃ i : Nat, s = (foldS (rawS true (groundS (ps.take i))), flipS true (groundS (ps.take i)).length, (i : Int)) ∧ i ≤ m) (fun s _ => ((m : Int) - s.2.2).toNat) ⟨rfl, 0, by simp [groundS, rawS, foldS, flipS], by omega⟩ ?_
  rintro _ w1 ⟨rfl, i, rfl, hi⟩
  show sum_Sum_L58 _ PA m (foldS (rawS true (groundS (ps.take i)))) (flipS true (groundS (ps.take i)).length) (i : Int) w _
  unfold sum_Sum_L58
  refine Br.dec (fun hlt => ?_) (fun hge => ?_)
  · have hil : i < ps.length := by omega
    obtain ⟨hc, hl, hb, hn⟩ := h.each _ (List.getElem_mem hil)
    refine h.read hil hm fun a ha => ⟨_, _, _, ha, ?_⟩
    have hg := hB i
    generalize hG : groundS (ps.take i) = G at hg ⊢
    have hf := foldS_bound (rawS_bound hg true).1
    refine LoopVC.of (fun s w' => w = w' ∧ ∃ k : Nat, s = (foldS (rawS true G) + rawS (flipS true G.length) (ps[i].bs.take k), flipS true (G.length + k), (k : Int)) ∧ k ≤ ps[i].n) (fun s _ => ((ps[i].n : Int) - s.2.2).toNat) ⟨rfl, 0, by simp [rawS], by omega⟩ ?_
    rintro _ w2 ⟨rfl, k, rfl, hk⟩
    show sum_Sum_L29898 _ (i : Int) _ ps[i].A ps[i].n (foldS (rawS true G) + rawS (flipS true G.length) (ps[i].bs.take k)) (flipS true (G.length + k)) (k : Int) w _
    unfold sum_Sum_L29898
    have hr := rawS_bound (hb.take k) (flipS true G.length)
    have hlk : (ps[i].bs.take k).length = k := by rw [List.length_take]; omega
    rw [hlk] at hr
    rw [w64 (n := (k : Int) + 1) (by omega) (by omega), w64 (n := (i : Int) + 1) (by omega) (by omega)]
    refine Br.dec (fun hkl => ?_) (fun hkg => ?_)
    · have hkl' : k < ps[i].bs.length := by omega
      have hx : 0 ≤ ps[i].bs.getD k 0 ∧ ps[i].bs.getD k 0 < 256 := by simp [List.getD_eq_getElem?_getD, hkl']; exact hb.at hkl'
      have hrt := rawS_take (flipS true G.length) hkl'
      rw [flipS_add] at hrt
      refine IdxVC.int hc (by omega) hkl hl fun a hca => ⟨_, hca, ?_⟩
      rw [Int.toNat_natCast, w64 (n := ps[i].bs.getD k 0) (by omega) (by omega), w64 (n := ps[i].bs.getD k 0 * 256) (by omega) (by omega)]
      have hfl := flipS_succ true (G.length + k)
      rw [Nat.add_assoc] at hfl
      cases hh : flipS true (G.length + k) with
      | true =>
        rw [hh] at hrt hfl
        refine Br.t rfl ⟨⟨rfl, k + 1, ?_, by omega⟩, by show ((ps[i].n : Int) - ((k : Int) + 1)).toNat < ((ps[i].n : Int) - (k : Int)).toNat; omega⟩
        rw [hfl, hrt, w64 (by omega) (by omega)]
        simp only [if_true, Prod.mk.injEq, true_and]
        omega
      | false =>
        rw [hh] at hrt hfl
        refine Br.f rfl ⟨⟨rfl, k + 1, ?_, by omega⟩, by show ((ps[i].n : Int) - ((k : Int) + 1)).toNat < ((ps[i].n : Int) - (k : Int)).toNat; omega⟩
        rw [hfl, hrt, w64 (by omega) (by omega)]
        simp only [Bool.false_eq_true, if_false, Prod.mk.injEq, true_and]
        omega
    · have hkn : k = ps[i].n := by omega
      subst hkn
      rw [← hl, List.take_length] at hr ⊢
      refine (fold_spec (by omega) (by omega)).mono ?_
      rintro _ w3 ⟨rfl, rfl⟩
      refine ⟨_, rfl, ⟨rfl, i + 1, ?_, by omega⟩, by show ((m : Int) - ((i : Int) + 1)).toNat < ((m : Int) - (i : Int)).toNat; omega⟩
      rw [groundS_take hil, hG, rawS_append, foldS_add (rawS_bound hg true).1 hr.1, List.length_append]
      simp
  · have : i = m := by omega
    subst this
    refine ⟨rfl, ?_⟩
    rw [← hm, List.take_length]; rfl
set_option maxHeartbeats 1000000 in
theorem refSum_spec (h : PartsAt w PA ps) (hm : ps.length = m) (hm2 : m ≤ 10) : Calls Tryd.prog 90 #[.slice PA m mc] w fun e w' => w = w' ∧ e = .returned (.int .i64 (sumS (groundS ps))) := by
  refine weirref2_Sum_of PA m mc w _ ?_
  unfold weirref2_Sum_VC
  have hB : ∀ i, Bts (groundS (ps.take i)) := fun i => groundS_bts fun p hp => (h.each p (List.mem_of_mem_take hp)).2.2.1
  have hL : ∀ i, i ≤ m → (groundS (ps.take i)).length ≤ i * 70000 := fun i hi => by
    have := groundS_len (ps := ps.take i) (b := 70000) fun p hp => by have := h.each p (List.mem_of_mem_take hp); omega
    rw [List.length_take] at this
    have e : min i ps.length = i := by omega
    rw [e] at this; exact this
  refine LoopVC.of (fun s w' => w = w' ∧ ∃ i : Nat, s = (((groundS (ps.take i)).length : Int), rawS true (groundS (ps.take i)), (i : Int)) ∧ i ≤ m) (fun s _ => ((m : Int) - s.2.2).toNat) ⟨rfl, 0, by simp [groundS, rawS], by omega⟩ ?_
  rintro _ w1 ⟨rfl, i, rfl, hi⟩
  show weirref2_Sum_L122 _ PA m ((groundS (ps.take i)).length : Int) (rawS true (groundS (ps.take i))) (i : Int) w _
  unfold weirref2_Sum_L122
  have hg := hB i
  have hgl := hL i hi
  have hraw := rawS_bound hg true
  refine Br.dec (fun hlt => ?_) (fun hge => ?_)
  · have hil : i < ps.length := by omega
    obtain ⟨hc, hl, hb, hn⟩ := h.each _ (List.getElem_mem hil)
    generalize hG : groundS (ps.take i) = G at hg hgl hraw ⊢
    refine LoopVC.of (fun s w' => w = w' ∧ ∃ k : Nat, s = (((G.length + k : Nat) : Int), rawS true G + rawS (flipS true G.length) (ps[i].bs.take k), (k : Int)) ∧ k ≤ ps[i].n) (fun s _ => ((ps[i].n : Int) - s.2.2).toNat) ⟨rfl, 0, by simp [rawS], by omega⟩ ?_
    rintro _ w2 ⟨rfl, k, rfl, hk⟩
    show weirref2_Sum_L7826 PA m (i : Int) _ ((G.length + k : Nat) : Int) (rawS true G + rawS (flipS true G.length) (ps[i].bs.take k)) (k : Int) w _
    unfold weirref2_Sum_L7826
    have hr := rawS_bound (hb.take k) (flipS true G.length)
    have hlk : (ps[i].bs.take k).length = k := by rw [List.length_take]; omega
    rw [hlk] at hr
    rw [w64 (n := (k : Int) + 1) (by omega) (by omega), w64 (n := (i : Int) + 1) (by omega) (by omega), w64 (n := ((G.length + k : Nat) : Int) + 1) (by omega) (by omega)]
    refine h.read hil hm fun a ha => ⟨_, _, _, ha, Br.dec (fun hkl => ?_) (fun hkg => ?_)⟩
    · have hkl' : k < ps[i].bs.length := by omega
      have hx : 0 ≤ ps[i].bs.getD k 0 ∧ ps[i].bs.getD k 0 < 256 := by simp [List.getD_eq_getElem?_getD, hkl']; exact hb.at hkl'
      have hrt := rawS_take (flipS true G.length) hkl'
      rw [flipS_add] at hrt
      refine h.read hil hm fun a ha => ⟨_, _, _, ha, ?_⟩
      refine IdxVC.int hc (by omega) hkl hl fun a hca => ⟨_, hca, ?_⟩
      rw [Int.toNat_natCast, w64 (n := ps[i].bs.getD k 0) (by omega) (by omega), w64 (n := ps[i].bs.getD k 0 * 256) (by omega) (by omega)]
      have em : Int.tmod ((G.length + k : Nat) : Int) 2 = (((G.length + k) % 2 : Nat) : Int) := by rw [Int.tmod_eq_emod_of_nonneg (by omega)]; omega
      rw [em]
      refine Br.dec (fun he => ?_) (fun he => ?_)
      · have hh : flipS true (G.length + k) = true := by unfold flipS; rw [if_pos (by omega)]
        rw [hh, if_pos rfl] at hrt
        refine ⟨⟨rfl, k + 1, ?_, by omega⟩, by show ((ps[i].n : Int) - ((k : Int) + 1)).toNat < ((ps[i].n : Int) - (k : Int)).toNat; omega⟩
        rw [hrt, w64 (by omega) (by omega)]
        simp only [Prod.mk.injEq]
        omega
      · have hh : flipS true (G.length + k) = false := by unfold flipS; rw [if_neg (by omega)]; rfl
        rw [hh, if_neg (by decide)] at hrt
        refine ⟨⟨rfl, k + 1, ?_, by omega⟩, by show ((ps[i].n : Int) - ((k : Int) + 1)).toNat < ((ps[i].n : Int) - (k : Int)).toNat; omega⟩
        rw [hrt, w64 (by omega) (by omega)]
        simp only [Prod.mk.injEq]
        omega
    · have hkn : k = ps[i].n := by omega
      subst hkn
      refine ⟨⟨rfl, i + 1, ?_, by omega⟩, by show ((m : Int) - ((i : Int) + 1)).toNat < ((m : Int) - (i : Int)).toNat; omega⟩
      rw [groundS_take hil, hG, rawS_append, List.length_append, ← hl, List.take_length]
      simp
  · have : i = m := by omega
    subst this
    refine (folded_spec (by omega) (by omega)).mono ?_
    rintro _ w3 ⟨rfl, rfl⟩
    refine ⟨_, rfl, rfl, ?_⟩
    rw [← hm, List.take_length]; rfl
theorem sumCheck_spec (h : PartsAt w PA ps) (hm : ps.length = m) (hm2 : m ≤ 10) : Calls Tryd.prog 60 #[.slice PA m mc] w fun e w' => w = w' ∧ e = .returned (.int .i64 (65535 - sumS (groundS ps))) := by
  refine sum_Check_of PA m mc w _ ?_
  refine (sum_spec h hm hm2).mono ?_
  rintro _ w1 ⟨rfl, rfl⟩
  have := foldS_bound (rawS_bound (groundS_bts fun p hp => (h.each p hp).2.2.1) true).1
  unfold sumS
  exact ⟨_, rfl, rfl, by rw [w64 (by omega) (by omega)]⟩
theorem refCheck_spec (h : PartsAt w PA ps) (hm : ps.length = m) (hm2 : m ≤ 10) : Calls Tryd.prog 62 #[.slice PA m mc] w fun e w' => w = w' ∧ e = .returned (.int .i64 (65535 - sumS (groundS ps))) := by
  refine weirref2_Check_of PA m mc w _ ?_
  refine (refSum_spec h hm hm2).mono ?_
  rintro _ w1 ⟨rfl, rfl⟩
  have := foldS_bound (rawS_bound (groundS_bts fun p hp => (h.each p hp).2.2.1) true).1
  unfold sumS
  exact ⟨_, rfl, rfl, by rw [w64 (by omega) (by omega)]⟩
theorem sumGood_spec (h : PartsAt w PA ps) (hm : ps.length = m) (hm2 : m ≤ 10) : Calls Tryd.prog 64 #[.slice PA m mc] w fun e w' => w = w' ∧ e = .returned (.bool (decide (sumS (groundS ps) = 65535))) := by
  refine sum_Good_of PA m mc w _ ?_
  refine (sum_spec h hm hm2).mono ?_
  rintro _ w1 ⟨rfl, rfl⟩
  exact ⟨_, rfl, rfl, rfl⟩
theorem refGood_spec (h : PartsAt w PA ps) (hm : ps.length = m) (hm2 : m ≤ 10) : Calls Tryd.prog 66 #[.slice PA m mc] w fun e w' => w = w' ∧ e = .returned (.bool (decide (sumS (groundS ps) = 65535))) := by
  refine weirref2_Good_of PA m mc w _ ?_
  refine (refSum_spec h hm hm2).mono ?_
  rintro _ w1 ⟨rfl, rfl⟩
  exact ⟨_, rfl, rfl, rfl⟩
end
end Go.Proofs.YtjngdcilnipjcaaDoor
