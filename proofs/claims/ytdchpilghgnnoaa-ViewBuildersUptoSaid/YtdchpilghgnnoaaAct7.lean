/- One call of a builder, and of its twin: Bytes: the list of cuts gets twenty more behind it. -/
import Derived.Test.YtdchpilghgnnoaaAct6
namespace Go.Proofs.Ytdchpilghgnnoaa
open Go.Eng Go.RowKit

set_option maxHeartbeats 2000000 in
theorem acted_list {w w7 : World} {g1 m wc lc gt : Nat} {b r WA LA : Option Addr} {G : List Int} {vs cells : List Value} {R : Ending → World → Prop} (hm2 : m ≤ 1048700)
    (hE : Ext w w7) (hg1 : Blk w7 g1 52 cells)
    (hwa : w7.ownsRow w.heap.size 5 1 (.slice WA gt wc) gt (G.map (.int .u8)))
    (hla : w7.ownsRow w.heap.size 22 1 (.slice LA m lc) m vs)
    (hne : ∀ k, some k = (Value.slice LA m lc).ownBlock → some k ≠ (Value.slice WA gt wc).ownBlock ∧ k ≠ g1)
    (hcont : ∀ (LB : Option Addr) (lb : Nat) (gs : List Nat) (w8 : World) (K : (Option Addr × Nat × Nat) × Int → World → Prop), gs.length = 20 → Ext w w8 → Blk w8 g1 52 cells →
      w8.ownsRow w.heap.size 5 1 (.slice WA gt wc) gt (G.map (.int .u8)) → m + 20 ≤ lb →
      w8.ownsRow w.heap.size 22 1 (.slice LB (m + 20) lb) (m + 20) (vs ++ gs.map fun g => .slice (some ⟨g, 0, none⟩) 1 1) →
      (∀ g ∈ gs, Blk w8 g 5 [.int .u8 207] ∧ w.heap.size ≤ g) →
      weirlaw1_acted_L55162 R b r g1 m WA gt wc m LB (m + 20) lb 20 w8 K) :
    LoopVC (S := (Option Addr × Nat × Nat) × Int) (fun s w8 K55162 => weirlaw1_acted_L55162 R b r g1 m WA gt wc m s.1.1 s.1.2.1 s.1.2.2 s.2 w8 K55162) ((LA, m, lc), 0) w7 := by
  refine LoopVC.of (fun s w' => ∃ (i : Nat) (LB : Option Addr) (lb : Nat) (gs : List Nat), i ≤ 20 ∧ s = ((LB, m + i, lb), (i : Int)) ∧ gs.length = i ∧ Ext w w' ∧ Blk w' g1 52 cells ∧
    w'.ownsRow w.heap.size 5 1 (.slice WA gt wc) gt (G.map (.int .u8)) ∧ m + i ≤ lb ∧
    w'.ownsRow w.heap.size 22 1 (.slice LB (m + i) lb) (m + i) (vs ++ gs.map fun g => .slice (some ⟨g, 0, none⟩) 1 1) ∧
    (∀ g ∈ gs, Blk w' g 5 [.int .u8 207] ∧ w.heap.size ≤ g) ∧
    (∀ k, some k = (Value.slice LB (m + i) lb).ownBlock → some k ≠ (Value.slice WA gt wc).ownBlock ∧ k ≠ g1 ∧ k ∉ gs)) (fun s _ => (20 - s.2).toNat) ?_ ?_
  · refine ⟨0, LA, lc, [], by omega, rfl, rfl, hE, hg1, hwa, ?_, by simpa using hla, by simp, fun k hk => ⟨(hne k hk).1, (hne k hk).2, by simp⟩⟩
    obtain ⟨A', c', hv, hc, _⟩ := own_form hla
    injection hv with _ _ h3
    omega
  rintro _ w8 ⟨i, LB, lb, gs, hi, rfl, hgl, hE8, hb1, hwa8, hlb, hla8, hgs, hdis⟩
  by_cases hlt : i < 20
  · show weirlaw1_acted_L55162 R b r g1 m WA gt wc m LB (m + i) lb (i : Int) w8 _
    unfold weirlaw1_acted_L55162
    refine Br.yes (by omega) ?_
    refine NewVC.blk fun g2 w9 hg2 hz9 hE9 hb2 => NewVC.blk fun g3 w10 hg3 hz10 hE10 hb3 => ?_
    have hE810 := hE9.ext hE10
    have hs8 := hE8.size
    refine AppVC.at Try.underlying50 tyBytes rfl (own_ext hla8 hE810) (by simpa using Cells.of_blk hb3 0) (m := 1) rfl (by simp [Value.oneCell']) (by omega) (by decide) (by omega) fun LB2 lb2 w11 hown11 hm11 hlb2 hn11 => ?_
    have hltL : ∀ k, some k = (Value.slice LB (m + i) lb).ownBlock → k < w8.heap.size := fun k hk => (hla8.lt k hk.symm).2
    have hltW : ∀ k, some k = (Value.slice WA gt wc).ownBlock → k < w8.heap.size := fun k hk => (hwa8.lt k hk.symm).2
    have hl1 := hb1.lt
    rw [w64 (n := (i : Int) + 1) (by omega) (by omega)]
    refine ⟨⟨i + 1, LB2, lb2, gs ++ [g2], by omega, ?_, by simp [hgl], ?_, ?_, ?_, by omega, ?_, fun g hg => ?_, fun k hk => ?_⟩, by simp only; omega⟩
    · rw [show ((i + 1 : Nat) : Int) = (i : Int) + 1 by omega, Nat.add_assoc]
    · exact (hE8.ext hE810).trans' hm11 fun k hk e => by have := own_new hla8 k e.symm; omega
    · exact (hb1.ext hE810).mod hm11 fun e => (hdis g1 e).2.1 rfl
    · exact own_mod (own_ext hwa8 hE810) hm11 fun k hk e => (hdis k e).1 hk.symm
    · have e : vs ++ (gs ++ [g2]).map (fun g => Value.slice (some ⟨g, 0, none⟩) 1 1) = vs ++ gs.map (fun g => Value.slice (some ⟨g, 0, none⟩) 1 1) ++ [.slice (some ⟨g2, 0, none⟩) 1 1] := by simp
      rw [e, ← Nat.add_assoc]; exact hown11
    · rcases List.mem_append.1 hg with h | h
      · obtain ⟨h1, h2⟩ := hgs g h
        exact ⟨(h1.ext hE810).mod hm11 fun e => (hdis g e).2.2 h, h2⟩
      · simp at h
        subst h
        exact ⟨(hb2.ext hE10).mod hm11 fun e => by have := hltL _ e; omega, by omega⟩
    · rw [← Nat.add_assoc] at hk
      rcases hn11 k hk with e | e
      · have := hltL k e
        refine ⟨(hdis k e).1, (hdis k e).2.1, fun h => ?_⟩
        rcases List.mem_append.1 h with h | h
        · exact (hdis k e).2.2 h
        · simp at h; omega
      · refine ⟨fun e' => by have := hltW k e'; omega, by omega, fun h => ?_⟩
        rcases List.mem_append.1 h with h | h
        · have := (hgs k h).1.lt; omega
        · simp at h; omega
  · have h20 : i = 20 := by omega
    subst h20
    exact hcont LB lb gs w8 _ hgl hE8 hb1 hwa8 hlb hla8 hgs
end Go.Proofs.Ytdchpilghgnnoaa
