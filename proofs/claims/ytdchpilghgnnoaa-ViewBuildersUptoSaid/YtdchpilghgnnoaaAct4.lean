/- The last two loops of a call of Bytes, and what a call leaves. -/
import Derived.Test.YtdchpilghgnnoaaAct3
namespace Go.Proofs.Ytdchpilghgnnoaa
open Go.Eng Go.RowKit

/-- A list of parts with marks behind it. -/
def marksL (k : Nat) (gs : List Nat) : List Value := (gs.take k).map fun g => .slice (some ⟨g, 0, none⟩) 1 1
/-- What was handed in is written over. -/
theorem acted_over {w : World} {WA : Option Addr} {wc n : Nat} {L : List Int} {R : Ending → World → Prop} {base : Nat} (hown : w.ownsRow base 5 1 (.slice WA n wc) n (L.map (.int .u8))) (hn : n ≤ 4611686018427387904) (hl : L.length = n)
    (hR : ∀ w', Mod (fun k => some k = (Value.slice WA n wc).ownBlock) w w' → R (.returned (.bool true)) w') :
    LoopVC (S := Int) (fun s w18 K3530746 => weirlaw1_acted_L3530746 R WA n s w18 K3530746) 0 w := by
  refine LoopVC.of (fun s w' => ∃ (i : Nat) (L' : List Int), s = (i : Int) ∧ i ≤ n ∧ Mod (fun k => some k = (Value.slice WA n wc).ownBlock) w w' ∧ L'.length = n ∧ w'.ownsRow base 5 1 (.slice WA n wc) n (L'.map (.int .u8))) (fun s _ => ((n : Int) - s).toNat)
    ⟨0, L, rfl, by omega, Mod.refl _ _, hl, hown⟩ ?_
  rintro _ w1 ⟨i, L', rfl, hi, hM, hl', hown'⟩
  show weirlaw1_acted_L3530746 R WA n (i : Int) w1 _
  unfold weirlaw1_acted_L3530746
  refine Br.dec (fun hlt => ?_) (fun hge => hR w1 hM)
  refine IdxVC.own hown' (by omega) hlt hlt fun a _ hset => ?_
  refine hset _ _ rfl fun w2 hz2 hm2 hown2 => ?_
  rw [map_set] at hown2
  rw [w64 (n := (i : Int) + 1) (by omega) (by omega)]
  exact ⟨⟨i + 1, _, by omega, by omega, hM.trans hm2, by simpa using hl', hown2⟩, by omega⟩
/-- The marks behind the list stand. -/
theorem acted_marks {w : World} {WA LA : Option Addr} {wn : Nat} {m : Nat} {vs : List Value} {gs : List Nat} {R : Ending → World → Prop} (hv : vs.length = m) (hg : gs.length = 20) (hm : m ≤ 1048700)
    (hl : Cells w LA (vs ++ gs.map fun g => .slice (some ⟨g, 0, none⟩) 1 1)) (hb : ∀ g ∈ gs, w.cell? ⟨g, 0, none⟩ = some (.int .u8 207))
    (hend : LoopVC (S := Int) (fun s w18 K3530746 => weirlaw1_acted_L3530746 R WA wn s w18 K3530746) 0 w) :
    LoopVC (S := Int) (fun s w17 K1765370 => weirlaw1_acted_L1765370 R WA wn LA (m + 20) s w17 K1765370) (m : Int) w := by
  refine LoopVC.of (fun s w' => w = w' ∧ ∃ i : Nat, s = ((m + i : Nat) : Int) ∧ i ≤ 20) (fun s _ => (((m + 20 : Nat) : Int) - s).toNat) ⟨rfl, 0, rfl, by omega⟩ ?_
  rintro _ w1 ⟨rfl, i, rfl, hi⟩
  show weirlaw1_acted_L1765370 R WA wn LA (m + 20) ((m + i : Nat) : Int) w _
  unfold weirlaw1_acted_L1765370
  refine Br.dec (fun hlt => ?_) (fun hge => hend)
  have hig : i < gs.length := by omega
  have hget : ∀ {F : Addr → Prop}, (∀ a, w.cell? a = some (.slice (some ⟨gs[i], 0, none⟩) 1 1) → F a) → IdxVC LA (m + 20) 1 ((m + i : Nat) : Int) F := fun {F} hF => by
    refine IdxVC.of hl (by omega) hlt (by simp [hv, hg]) fun a _ ha => hF _ ?_
    rw [ha]
    congr 1
    simp only [Int.toNat_natCast]
    rw [List.getElem_append_right (by omega)]
    simp [hv]
  refine hget fun a ha => ⟨_, _, _, ha, Br.no (by decide) (hget fun a ha => ⟨_, _, _, ha, ?_⟩)⟩
  refine IdxVC.blk (by decide) (by decide) ?_
  refine ⟨_, hb _ (List.getElem_mem hig), Br.no (by decide) ?_⟩
  rw [w64 (by omega) (by omega)]
  exact ⟨⟨rfl, i + 1, by omega, by omega⟩, by omega⟩
end Go.Proofs.Ytdchpilghgnnoaa
