/- Builders' law: parts counted, and cut out of one array. -/
import Derived.Test.YtdchpilghgnnoaaBld5
namespace Go.Proofs.Ytdchpilghgnnoaa
open Go.Eng Go.RowKit

theorem few_spec {w : World} {PA : Option Addr} {m mc : Nat} {ps : List PartV} (hP : PartsIs w PA ps) (hm : ps.length = m) (hm2 : m ≤ 1048700) :
    Calls Try.prog 54 #[.slice PA m mc] w fun e w' => w = w' ∧ (e = .returned (.bool false) ∨ (e = .returned (.bool true) ∧ total ps + m ≤ 4194304)) := by
  refine weirlaw1_few_of PA m mc w _ ?_
  unfold weirlaw1_few_VC
  refine LoopVC.of (fun s w' => w = w' ∧ ∃ i : Nat, i ≤ m ∧ s = ((total (ps.take i) : Int) + i, (i : Int)) ∧ total (ps.take i) + i ≤ 4194304) (fun s _ => ((m : Int) - s.2).toNat) ⟨rfl, 0, by omega, by simp [total], by simp [total]⟩ ?_
  rintro _ w1 ⟨rfl, i, hi, rfl, hf⟩
  show weirlaw1_few_L58 _ PA m ((total (ps.take i) : Int) + i) (i : Int) w _
  unfold weirlaw1_few_L58
  refine Br.dec (fun hlt => ?_) (fun hge => ?_)
  · have hil : i < ps.length := by omega
    have hp := hP.each _ (List.getElem_mem hil)
    have hts := total_take_succ hil
    refine IdxVC.rec hP.recs (by omega) hlt (by simpa using hm) fun a hc => ?_
    have hrec : (ps.map fun p => ([.slice p.A p.n p.c] : List Value)).getD (i : Int).toNat [] = [.slice ps[i].A ps[i].n ps[i].c] := by rw [Int.toNat_natCast]; simp [hil]
    rw [hrec] at hc
    have hc0 := hc.1
    rw [add_zero] at hc0
    refine ⟨_, _, _, hc0, ?_⟩
    have hn := hp.2.2.2
    rw [w64 (n := (total (ps.take i) : Int) + i + ps[i].n) (by omega) (by omega), w64 (n := (total (ps.take i) : Int) + i + ps[i].n + 1) (by omega) (by omega), w64 (n := (i : Int) + 1) (by omega) (by omega)]
    refine Br.dec (fun _ => ⟨rfl, .inl rfl⟩) (fun hsm => ⟨⟨rfl, i + 1, by omega, ?_, by omega⟩, by simp only; omega⟩)
    rw [hts, Prod.mk.injEq]; constructor <;> omega
  · have him : i = ps.length := by omega
    subst him
    rw [List.take_length] at hf
    exact ⟨rfl, .inr ⟨rfl, by omega⟩⟩

/-- The parts' bytes with wide room behind each. -/
def ground (ps : List PartV) : List Int := ps.flatMap fun p => p.bs ++ wideTail 75
def gtotal (ps : List PartV) : Nat := total ps + 75 * ps.length
theorem ground_take_succ {ps : List PartV} {i : Nat} (h : i < ps.length) : ground (ps.take (i + 1)) = ground (ps.take i) ++ (ps[i].bs ++ wideTail 75) := by
  unfold ground
  rw [List.take_succ_eq_append_getElem h, List.flatMap_append]; simp
theorem gtotal_take_succ {ps : List PartV} {i : Nat} (h : i < ps.length) : gtotal (ps.take (i + 1)) = gtotal (ps.take i) + (ps[i].n + 75) := by
  unfold gtotal
  rw [total_take_succ h, List.length_take, List.length_take, Nat.min_eq_left (by omega), Nat.min_eq_left (by omega)]; omega
theorem gtotal_take_le (ps : List PartV) (i : Nat) : gtotal (ps.take i) ≤ gtotal ps := by
  unfold gtotal
  have := total_take_le ps i
  rw [List.length_take]
  have : min i ps.length ≤ ps.length := Nat.min_le_right _ _
  omega
theorem ground_length {w : World} : ∀ {ps : List PartV}, (∀ p ∈ ps, Cells w p.A (p.bs.map (.int .u8)) ∧ p.bs.length = p.n ∧ Bts p.bs ∧ p.n ≤ 1048700) → (ground ps).length = gtotal ps
  | [], _ => rfl
  | p :: r, h => by
    have h1 := (h p (by simp)).2.1
    have h2 := ground_length (w := w) (ps := r) fun q hq => h q (List.mem_cons_of_mem _ hq)
    simp only [ground, gtotal, List.flatMap_cons, List.length_append, total, List.length_cons, wideTail, List.length_map, List.length_range] at h2 ⊢
    omega
theorem ground_bts {w : World} {ps : List PartV} (h : ∀ p ∈ ps, Cells w p.A (p.bs.map (.int .u8)) ∧ p.bs.length = p.n ∧ Bts p.bs ∧ p.n ≤ 1048700) : Bts (ground ps) := by
  intro x hx
  obtain ⟨p, hp, hx⟩ := List.mem_flatMap.1 hx
  exact bts_append (h p hp).2.2.1 (wideTail_bts 75) x hx
theorem PartsIs.ext {w w' : World} {PA : Option Addr} {ps : List PartV} (h : PartsIs w PA ps) (hE : Ext w w') : PartsIs w' PA ps :=
  ⟨h.recs.ext hE, fun p hp => ⟨(h.each p hp).1.ext hE, (h.each p hp).2⟩⟩

/-- The first loop of cuts: the array. -/
theorem cuts_ground {w : World} {PA : Option Addr} {m : Nat} {ps : List PartV} {R : Ending → World → Prop} (hP : PartsIs w PA ps) (hm : ps.length = m) (hm2 : m ≤ 1048700) (ht : gtotal ps ≤ 400000000)
    (hK : ∀ w' WA wc, Ext w w' → gtotal ps ≤ wc → w'.ownsRow w.heap.size 5 1 (.slice WA (gtotal ps) wc) (gtotal ps) ((ground ps).map (.int .u8)) →
      LoopVC (S := (Option Addr × Nat × Nat) × Int × Int) (fun s w4 K506 => weirlaw1_cuts_L506 R PA m WA (gtotal ps) wc s.1.1 s.1.2.1 s.1.2.2 s.2.1 s.2.2 w4 K506) ((none, 0, 0), 0, 0) w') :
    LoopVC (S := (Option Addr × Nat × Nat) × Int) (fun s w1 K58 => weirlaw1_cuts_L58 R PA m s.1.1 s.1.2.1 s.1.2.2 s.2 w1 K58) ((none, 0, 0), 0) w := by
  refine LoopVC.of (fun s w' => ∃ (i : Nat) (WA : Option Addr) (wc : Nat), i ≤ m ∧ s = ((WA, gtotal (ps.take i), wc), (i : Int)) ∧ Ext w w' ∧ gtotal (ps.take i) ≤ wc ∧
    w'.ownsRow w.heap.size 5 1 (.slice WA (gtotal (ps.take i)) wc) (gtotal (ps.take i)) ((ground (ps.take i)).map (.int .u8))) (fun s _ => ((m : Int) - s.2).toNat)
    ⟨0, none, 0, by omega, rfl, Mod.refl _ _, by simp [gtotal, total], World.ownsRow_nil _ _ _ _⟩ ?_
  rintro _ w1 ⟨i, WA, wc, hi, rfl, hE, hwc, hown⟩
  show weirlaw1_cuts_L58 R PA m WA (gtotal (ps.take i)) wc (i : Int) w1 _
  unfold weirlaw1_cuts_L58
  refine Br.dec (fun hlt => ?_) (fun hge => ?_)
  · have hil : i < ps.length := by omega
    have hP1 := hP.ext hE
    have hp := hP1.each _ (List.getElem_mem hil)
    have hn := hp.2.2.2
    have hts := gtotal_take_succ hil
    have htl := gtotal_take_le ps (i + 1)
    refine IdxVC.rec hP1.recs (by omega) hlt (by simpa using hm) fun a hc => ?_
    have hrec : (ps.map fun p => ([.slice p.A p.n p.c] : List Value)).getD (i : Int).toNat [] = [.slice ps[i].A ps[i].n ps[i].c] := by rw [Int.toNat_natCast]; simp [hil]
    rw [hrec] at hc
    have hc0 := hc.1
    rw [add_zero] at hc0
    refine ⟨_, _, _, hc0, ?_⟩
    refine (roomy_spec hp.1 hp.2.1 (by omega)).mono ?_
    rintro _ w2 ⟨hE2, A1, c1, rfl, hc1, hown1⟩
    refine ⟨_, _, _, rfl, ?_⟩
    have hE02 := hE.ext hE2
    obtain ⟨ti, hti, htz, hts', hty⟩ := tyByte
    refine AppVC.own Try.underlying22 hti htz hts' hty rfl (by decide) (own_ext hown hE2) (own_cells hown1) (by simp [wideTail]; exact hp.2.1) (ints_one _ _) (by omega) (by decide) hE02.size fun A2 c2 w3 hown2 hm3 hc2 => ?_
    rw [w64 (n := (i : Int) + 1) (by omega) (by omega)]
    refine ⟨⟨i + 1, A2, c2, by omega, ?_, Ext.own hE02 (own_ext hown hE2) hm3, by omega, ?_⟩, by simp only; omega⟩
    · rw [hts, show ((i + 1 : Nat) : Int) = (i : Int) + 1 by omega]
    · rw [hts, ground_take_succ hil, List.map_append]; exact hown2
  · have him : i = ps.length := by omega
    subst him
    rw [List.take_length] at hwc hown ⊢
    exact hK w1 WA wc hE hwc hown

/-- The i-th of what was cut. -/
def cutOf (WA : Option Addr) (wc : Nat) (ps : List PartV) (i : Nat) : PartV :=
  ⟨if wc = gtotal (ps.take i) then WA else WA.map (·.add (gtotal (ps.take i) * 1)), (ps[i]?.map (·.n)).getD 0, wc - gtotal (ps.take i), (ps[i]?.map (·.bs)).getD []⟩
def cutsOf (WA : Option Addr) (wc : Nat) (ps : List PartV) (i : Nat) : List PartV := (List.range i).map (cutOf WA wc ps)
theorem tyBytes : TypeIs Try.prog 22 (.slice none 0 0) 1 24 := .of (by kernel_rfl)
set_option maxHeartbeats 1000000 in
theorem cuts_spec {w : World} {PA : Option Addr} {m mc : Nat} {ps : List PartV} (hP : PartsIs w PA ps) (hm : ps.length = m) (hm2 : m ≤ 1048700) (ht : gtotal ps ≤ 400000000) :
    Calls Try.prog 55 #[.slice PA m mc] w fun e w' => Ext w w' ∧ ∃ WA wc LA lc, e = .returned (.tuple #[.slice LA m lc, .slice WA (gtotal ps) wc]) ∧
      w'.ownsRow w.heap.size 5 1 (.slice WA (gtotal ps) wc) (gtotal ps) ((ground ps).map (.int .u8)) ∧
      w'.ownsRow w.heap.size 22 1 (.slice LA m lc) m ((cutsOf WA wc ps m).map fun p => .slice p.A p.n p.c) ∧
      (∀ k, some k = (Value.slice LA m lc).ownBlock → some k ≠ (Value.slice WA (gtotal ps) wc).ownBlock) := by
  refine weirlaw1_cuts_of PA m mc w _ ?_
  unfold weirlaw1_cuts_VC
  refine cuts_ground hP hm hm2 ht fun w1 WA wc hE1 hwc hown => ?_
  refine LoopVC.of (fun s w' => ∃ (i : Nat) (LA : Option Addr) (lc : Nat), i ≤ m ∧ s = ((LA, i, lc), (gtotal (ps.take i) : Int), (i : Int)) ∧ Ext w1 w' ∧
    w'.ownsRow w1.heap.size 22 1 (.slice LA i lc) i ((cutsOf WA wc ps i).map fun p => .slice p.A p.n p.c)) (fun s _ => ((m : Int) - s.2.2).toNat)
    ⟨0, none, 0, by omega, by simp [gtotal, total], Mod.refl _ _, World.ownsRow_nil _ _ _ _⟩ ?_
  rintro _ w4 ⟨i, LA, lc, hi, rfl, hE4, hl4⟩
  show weirlaw1_cuts_L506 _ PA m WA (gtotal ps) wc LA i lc (gtotal (ps.take i) : Int) (i : Int) w4 _
  unfold weirlaw1_cuts_L506
  have hE04 := hE1.ext hE4
  refine Br.dec (fun hlt => ?_) (fun hge => ?_)
  · have hil : i < ps.length := by omega
    have hP1 := hP.ext hE04
    have hp := hP1.each _ (List.getElem_mem hil)
    have hn := hp.2.2.2
    have hts := gtotal_take_succ hil
    have htl := gtotal_take_le ps (i + 1)
    refine IdxVC.rec hP1.recs (by omega) hlt (by simpa using hm) fun a hc => ?_
    have hrec : (ps.map fun p => ([.slice p.A p.n p.c] : List Value)).getD (i : Int).toNat [] = [.slice ps[i].A ps[i].n ps[i].c] := by rw [Int.toNat_natCast]; simp [hil]
    rw [hrec] at hc
    have hc0 := hc.1
    rw [add_zero] at hc0
    refine ⟨_, _, _, hc0, ?_⟩
    rw [w64 (n := (gtotal (ps.take i) : Int) + ps[i].n) (by omega) (by omega), w64 (n := (gtotal (ps.take i) : Int) + ps[i].n + 75) (by omega) (by omega), w64 (n := (i : Int) + 1) (by omega) (by omega)]
    refine ⟨by omega, by omega, by omega, ?_⟩
    have e1 : ((gtotal (ps.take i) : Int) + ps[i].n).toNat - (gtotal (ps.take i) : Int).toNat = ps[i].n := by omega
    rw [e1, Int.toNat_natCast]
    refine AppVC.one Try.underlying50 tyBytes rfl hl4 rfl (by omega) (by decide) hE4.size fun LA2 lc2 w5 hl5 hm5 hlc => ?_
    refine ⟨⟨i + 1, LA2, lc2, by omega, ?_, Ext.own hE4 hl4 hm5, ?_⟩, by simp only; omega⟩
    · rw [hts]
      rw [show ((gtotal (ps.take i) + (ps[i].n + 75) : Nat) : Int) = (gtotal (ps.take i) : Int) + ps[i].n + 75 by omega, show ((i + 1 : Nat) : Int) = (i : Int) + 1 by omega]
    · have e : (cutsOf WA wc ps (i + 1)).map (fun p => Value.slice p.A p.n p.c) = (cutsOf WA wc ps i).map (fun p => Value.slice p.A p.n p.c) ++ [.slice (if wc = gtotal (ps.take i) then WA else WA.map (·.add (gtotal (ps.take i) * 1))) ps[i].n (wc - gtotal (ps.take i))] := by
        unfold cutsOf
        rw [List.range_succ, List.map_append, List.map_append]
        simp [cutOf, List.getElem?_eq_getElem hil]
      rw [e]; exact hl5
  · have him : i = m := by omega
    subst him
    refine ⟨hE04, WA, wc, LA, lc, rfl, own_ext hown hE4, own_base hl4 hE1.size, fun k hk e => ?_⟩
    have h1 := own_new hl4 k hk.symm
    have h2 := (hown.lt k e.symm).2
    omega
end Go.Proofs.Ytdchpilghgnnoaa
