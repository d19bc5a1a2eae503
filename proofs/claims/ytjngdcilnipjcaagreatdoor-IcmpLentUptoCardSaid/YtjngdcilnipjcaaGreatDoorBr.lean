/- Chapter 8: what the laws ask ahead: told. -/
import Derived.Test.YtjngdcilnipjcaaGreatDoorBp
import Derived.Test.YtjngdcilnipjcaaGreatDoorBh
namespace Go.Proofs.YtjngdcilnipjcaaGreatDoor
namespace N6
open Go.Eng Go.RowKit
def goneV4 : Ip4V := ⟨0, 0, false, false, 0, 1, 17, ⟨4, 10, 0, 0, 1, 0, 0, 0, 0, 0, 0, 0, 0, 0, 0, 0, 0⟩, ⟨4, 10, 0, 0, 2, 0, 0, 0, 0, 0, 0, 0, 0, 0, 0, 0, 0⟩, ⟨none, 0, 0⟩, ⟨none, 0, 0⟩⟩
def goneV6 : Ip6V := ⟨0, 0, 1, ⟨6, 32, 1, 0, 0, 0, 0, 0, 0, 0, 0, 0, 0, 0, 0, 0, 1⟩, ⟨6, 32, 1, 0, 0, 0, 0, 0, 0, 0, 0, 0, 0, 0, 0, 0, 2⟩, ⟨none, 0, 0⟩, ⟨false, false, 0, 0⟩, 17, ⟨none, 0, 0⟩⟩
section
variable {w : World}
theorem gone4_spec : Calls Tryz.prog 17 #[] w fun e w' => Ext w w' ∧ e = .returned goneV4.val := by
 refine weirlaw8_gone4_of w _ ?_
 unfold weirlaw8_gone4_VC
 refine NewVC.sep (Sep.start0 w) fun g1 w1 H => Stores.sep H 1 rfl (Ip4V.one goneV4) (Nat.le_refl _) (splice_all rfl) fun w2 H => Ip4V.of goneV4 ⟨H.at 1 rfl, H.restOf 0 rfl, rfl⟩
theorem gone6_spec : Calls Tryz.prog 25 #[] w fun e w' => Ext w w' ∧ e = .returned goneV6.val := by
 refine weirlaw8_gone6_of w _ ?_
 unfold weirlaw8_gone6_VC
 refine NewVC.sep (Sep.start0 w) fun g1 w1 H => Stores.sep H 1 rfl (Ip6V.one goneV6) (Nat.le_refl _) (splice_all rfl) fun w2 H => Ip6V.of goneV6 ⟨H.at 1 rfl, H.restOf 0 rfl, rfl⟩
theorem bts_of_all {l : List Int} (h : l.all (fun x => decide (0 ≤ x) && decide (x < 256)) = true) : Bts l := fun x hx => by
 have := List.all_eq_true.1 h x hx
 simp at this
 exact this
theorem gone4_at (w : World) : Ip4At w goneV4 [] [] := ⟨OptsAt.nil _ _ _, BytesAt.nil _ _ _, bts_of_all rfl, bts_of_all rfl⟩
theorem gone6_at (w : World) : Ip6At w goneV6 [] [] := ⟨ExtsAt.nil _ _ _, BytesAt.nil _ _ _, bts_of_all rfl, bts_of_all rfl⟩
theorem told4 : (comp4S ⟨5, 0⟩ (goneV4.d [] [])).map (fun r => (r.1, r.2.2.2.length)) = some (11, 20) := by kernel_rfl
theorem told6 : (comp6S ⟨5, 0⟩ (goneV6.d [] [])).map (fun r => (r.1, r.2.2.2.length)) = some (3, 40) := by kernel_rfl
end
end N6
end Go.Proofs.YtjngdcilnipjcaaGreatDoor
/- Chapter 8: what is told may be, is not too long, and nothing is told about it. -/
namespace Go.Eng
open Go Go.RowKit
def isH (k : Int) : Prop := k = 0 ∨ k = 43 ∨ k = 60
theorem bodyS_isH {x : ExtD} (h : (bodyS x).2 = 0) : isH x.kind := by
 unfold bodyS at h
 unfold isH
 split at h
 ·rename_i h0; exact .inr (.inl h0)
 ·split at h
  ·rename_i h1; omega
  ·exact absurd h (by decide)
structure Ip6D.ok (d : Ip6D) : Prop where
 exts : ∀ x ∈ d.exts, x.ok
 data : Bts d.data
 src : Bts d.src.bytes
 dst : Bts d.dst.bytes
theorem Ip6At.ok {w : World} {h : Ip6V} {es : List ExtR} {data : List Int} (H : Ip6At w h es data) : (h.d es data).ok := by
 refine ⟨fun x hx => ?_, H.data.bts, H.src, H.dst⟩
 obtain ⟨r, hr, rfl⟩ := List.mem_map.1 hx
 refine ⟨(H.exts.data r hr).bts, fun o ho => ?_⟩
 obtain ⟨q, hq, rfl⟩ := List.mem_map.1 ho
 exact ((H.exts.opts r hr).each q hq).bts
theorem firstK_range {d : Ip6D} (h : (ser6S d).2 = 0) : 0 ≤ firstK d ∧ firstK d ≤ 255 := by
 rcases ser6S_cases d with ⟨h1, _⟩ | ⟨_, hf, hh, _, _, _⟩
 ·exact absurd h h1
 ·obtain ⟨h8, hok, _⟩ := headersS_ok hh
  unfold fieldBad at hf
  unfold firstK
  split
  ·rename_i x l hx
   have := bodyS_isH (hok 0 x (by rw [hx]; simp) (by rw [hx]; rfl)).2
   unfold isH at this
   omega
  ·unfold behindK; split <;> omega
theorem trb_facts : ∀ k : Nat, 1 ≤ k → k ≤ 7 → ∃ x0 x1 x2 x3 x4 x5 x6 : Int, trbT[k]? = some [x0, x1, x2, x3, x4, x5, x6] ∧ (x0 = 3 ∨ x0 = 11 ∨ x0 = 12) ∧ (0 ≤ x1 ∧ x1 ≤ 255) ∧ (1 ≤ x2 ∧ x2 ≤ 4) ∧ (0 ≤ x3 ∧ x3 ≤ 255) ∧ x5 ≤ 65535 ∧ ((x6 = 0 ∧ x4 ≤ 65535) ∨ (x6 = 24 ∧ x4 ≤ 255)) := by
 intro k h1 h2
 match k, h1, h2 with
 | 1, _, _ => exact ⟨_, _, _, _, _, _, _, rfl, by decide, by decide, by decide, by decide, by decide, by decide⟩
 | 2, _, _ => exact ⟨_, _, _, _, _, _, _, rfl, by decide, by decide, by decide, by decide, by decide, by decide⟩
 | 3, _, _ => exact ⟨_, _, _, _, _, _, _, rfl, by decide, by decide, by decide, by decide, by decide, by decide⟩
 | 4, _, _ => exact ⟨_, _, _, _, _, _, _, rfl, by decide, by decide, by decide, by decide, by decide, by decide⟩
 | 5, _, _ => exact ⟨_, _, _, _, _, _, _, rfl, by decide, by decide, by decide, by decide, by decide, by decide⟩
 | 6, _, _ => exact ⟨_, _, _, _, _, _, _, rfl, by decide, by decide, by decide, by decide, by decide, by decide⟩
 | 7, _, _ => exact ⟨_, _, _, _, _, _, _, rfl, by decide, by decide, by decide, by decide, by decide, by decide⟩
end Go.Eng
namespace Go.Proofs.YtjngdcilnipjcaaGreatDoor
namespace N6
open Go.Eng Go.RowKit
theorem onRet_is {A : Value → World → Prop} {Q : List PanicEntry → World → Prop} {v : Value} {w' : World} (h : A v w') : onRet A Q (.returned v) w' := h
section
variable {w : World} {t : TrbV}
theorem Comp.ext {v : Int} {w w' : World} {r : Option (Int × Int × Int × List Int)} {e : Ending} (h : Comp v w r e w') : Ext w w' := by
 cases r with
 | none => exact h.2
 | some r => exact h.choose_spec.2.restOf 0 rfl
theorem told_spec (hT : Tb w) (hN : Nd.Tab w) (hW : Wd w) (hK : Kn w) : Calls Tryz.prog 5 #[] w fun e w' => Ext w w' ∧ e = .returned (.bool true) := by
 refine weirlaw8_told_of w _ ?_
 unfold weirlaw8_told_VC
 refine gone4_spec.mono ?_
 rintro _ w1 ⟨hE1, rfl⟩
 refine onRet_is (Ip4V.of goneV4 ⟨rfl, ?_⟩)
 refine (Complain4_spec (t := ⟨5, 0⟩) (gone4_at w1) (hT.ext hE1) (hN.ext hE1) (hW.ext hE1)).mono ?_
 intro e w2 hc
 have hE2 := hE1.trans hc.ext
 have h4 := told4
 cases hr : comp4S ⟨5, 0⟩ (goneV4.d [] []) with
 | none => rw [hr] at h4; cases h4
 | some r =>
  obtain ⟨ty, cd, rs, bs⟩ := r
  rw [hr] at hc h4
  injection h4 with h4
  injection h4 with ht hb
  have ht : ty = 11 := ht
  have hb : bs.length = 20 := hb
  obtain ⟨A, rfl, -⟩ := hc
  refine onRet_is (IcmV.of ⟨4, ty, cd, rs, ⟨A, bs.length, bs.length⟩⟩ ⟨_, rfl, NewVC.sep (Sep.start0 w2) fun g1 w3 H => Stores.sep H 1 rfl (IcmV.one ⟨4, ty, cd, rs, ⟨A, bs.length, bs.length⟩⟩) (Nat.le_refl _) (splice_all rfl) fun w4 H => ?_⟩)
  have hE4 := hE2.trans (H.restOf 0 rfl)
  refine gone6_spec.mono ?_
  rintro _ w5 ⟨hE5, rfl⟩
  have H := H.ext hE5
  have hE5 := hE4.trans hE5
  refine onRet_is (Ip6V.of goneV6 ⟨rfl, ?_⟩)
  refine (Complain6_spec (t := ⟨5, 0⟩) (gone6_at w5) (hT.ext hE5) (hN.ext hE5) (hK.ext hE5)).mono ?_
  intro e w6 hc
  have hE6 := hE5.trans hc.ext
  have H := H.ext hc.ext
  have h6 := told6
  cases hr6 : comp6S ⟨5, 0⟩ (goneV6.d [] []) with
  | none => rw [hr6] at h6; cases h6
  | some r6 =>
   obtain ⟨ty6, cd6, rs6, bs6⟩ := r6
   rw [hr6] at hc h6
   injection h6 with h6
   injection h6 with ht6 hb6
   have ht6 : ty6 = 3 := ht6
   have hb6 : bs6.length = 40 := hb6
   obtain ⟨A6, rfl, -⟩ := hc
   refine onRet_is (IcmV.of ⟨6, ty6, cd6, rs6, ⟨A6, bs6.length, bs6.length⟩⟩ ⟨_, rfl, NewVC.sep H fun g2 w7 H => Stores.sep H 2 rfl (IcmV.one ⟨6, ty6, cd6, rs6, ⟨A6, bs6.length, bs6.length⟩⟩) (Nat.le_refl _) (splice_all rfl) fun w8 H => ?_⟩)
   refine Br.t rfl (Br.t rfl ⟨_, H.cell 1 rfl 1 rfl, Br.yes ht ⟨_, H.cell 2 rfl 1 rfl, Br.yes ht6 ⟨_, _, _, H.cell 1 rfl 4 rfl, Br.yes (by rw [hb]; rfl) ⟨_, _, _, H.cell 2 rfl 4 rfl, hE2.trans (H.restOf 0 rfl), ?_⟩⟩⟩⟩)
   rw [hb6]; rfl
end
end N6
end Go.Proofs.YtjngdcilnipjcaaGreatDoor
