/- Chapter 8: what the laws ask ahead: told. -/
import Derived.Test.YtjngdcilnipjcaaDoorBp
import Derived.Test.YtjngdcilnipjcaaDoorBh
namespace Go.Proofs.YtjngdcilnipjcaaDoor
namespace N6
open Go.Eng Go.RowKit
def goneV4 : Ip4V := ⟨0, 0, false, false, 0, 1, 17, ⟨4, 10, 0, 0, 1, 0, 0, 0, 0, 0, 0, 0, 0, 0, 0, 0, 0⟩, ⟨4, 10, 0, 0, 2, 0, 0, 0, 0, 0, 0, 0, 0, 0, 0, 0, 0⟩, ⟨none, 0, 0⟩, ⟨none, 0, 0⟩⟩
def goneV6 : Ip6V := ⟨0, 0, 1, ⟨6, 32, 1, 0, 0, 0, 0, 0, 0, 0, 0, 0, 0, 0, 0, 0, 1⟩, ⟨6, 32, 1, 0, 0, 0, 0, 0, 0, 0, 0, 0, 0, 0, 0, 0, 2⟩, ⟨none, 0, 0⟩, ⟨false, false, 0, 0⟩, 17, ⟨none, 0, 0⟩⟩
section
variable {w : World}
theorem gone4_spec : Calls Tryd.prog 44 #[] w fun e w' => Ext w w' ∧ e = .returned goneV4.val := by
  refine weirlaw8_gone4_of w _ ?_
  unfold weirlaw8_gone4_VC
  refine NewVC.sep (Sep.start0 w) fun g1 w1 H => Stores.sep H 1 rfl (Ip4V.one goneV4) (Nat.le_refl _) (splice_all rfl) fun w2 H => Ip4V.of goneV4 ⟨H.at 1 rfl, H.restOf 0 rfl, rfl⟩
theorem gone6_spec : Calls Tryd.prog 45 #[] w fun e w' => Ext w w' ∧ e = .returned goneV6.val := by
  refine weirlaw8_gone6_of w _ ?_
  unfold weirlaw8_gone6_VC
  refine NewVC.sep (Sep.start0 w) fun g1 w1 H => Stores.sep H 1 rfl (Ip6V.one goneV6) (Nat.le_refl _) (splice_all rfl) fun w2 H => Ip6V.of goneV6 ⟨H.at 1 rfl, H.restOf 0 rfl, rfl⟩
theorem bts_of_all {l : List Int} (h : l.all (fun x => decide (0 ≤ x) && decide (x < 256)) = true) : Bts l := fun x hx => by
  have := List.all_eq_true.1 h x hx
  simp at this
  exact this
theorem gone4_at (w : World) : Ip4At w goneV4 [] [] := ⟨OptsAt.nil _ _ _, BytesAt.nil _ _ _, bts_of_all rfl, bts_of_all rfl⟩
theorem gone6_at (w : World) : Ip6At w goneV6 [] [] := ⟨ExtsAt.nil _ _ _, BytesAt.nil _ _ _, bts_of_all rfl, bts_of_all rfl⟩
theorem told4 : (comp4S ⟨5, 0⟩ (goneV4.d [] [])).map (fun r => (r.1, r.2.2.2.length)) = some (11, 20) := by kernel_rfl
theorem told6 : (comp6S ⟨5, 0⟩ (goneV6.d [] [])).map (fun r => (r.1, r.2.2.2.length)) = some (3, 40) := by kernel_rfl
end
end N6
end Go.Proofs.YtjngdcilnipjcaaDoor
/- Chapter 8: what is told may be, is not too long, and nothing is told about it. -/
namespace Go.Eng
open Go Go.RowKit
def isH (k : Int) : Prop := k = 0 ∨ k = 43 ∨ k = 60
theorem bodyS_isH {x : ExtD} (h : (bodyS x).2 = 0) : isH x.kind := by
  unfold bodyS at h
  unfold isH
  split at h
  · rename_i h0; exact .inr (.inl h0)
  · split at h
    · rename_i h1; omega
    · exact absurd h (by decide)
structure Ip6D.ok (d : Ip6D) : Prop where
  exts : ∀ x ∈ d.exts, x.ok
  data : Bts d.data
  src : Bts d.src.bytes
  dst : Bts d.dst.bytes
theorem Ip6At.ok {w : World} {h : Ip6V} {es : List ExtR} {data : List Int} (H : Ip6At w h es data) : (h.d es data).ok := by
  refine ⟨fun x hx => ?_, H.data.bts, H.src, H.dst⟩
  obtain ⟨r, hr, rfl⟩ := List.mem_map.1 hx
  refine ⟨(H.exts.data r hr).bts, fun o ho => ?_⟩
  obtain ⟨q, hq, rfl⟩ := List.mem_map.1 ho
  exact ((H.exts.opts r hr).each q hq).bts
theorem firstK_range {d : Ip6D} (h : (ser6S d).2 = 0) : 0 ≤ firstK d ∧ firstK d ≤ 255 := by
  rcases ser6S_cases d with ⟨h1, _⟩ | ⟨_, hf, hh, _, _, _⟩
  · exact absurd h h1
  · obtain ⟨h8, hok, _⟩ := headersS_ok hh
    unfold fieldBad at hf
    unfold firstK
    split
    · rename_i x l hx
      have := bodyS_isH (hok 0 x (by rw [hx]; simp) (by rw [hx]; rfl)).2
      unfold isH at this
      omega
    · unfold behindK; split <;> omega
theorem bts_list {l : List Int} (h : l.all (fun x => decide (0 ≤ x) && decide (x < 256)) = true) : Bts l := fun x hx => by
  have := List.all_eq_true.1 h x hx
  simp at this; exact this
theorem fragB_bts {d : Ip6D} (h : fragE d = 0) (hn : 0 ≤ d.next ∧ d.next ≤ 255) : Bts (fragB d) := by
  unfold fragB
  split
  · rename_i hh
    unfold fragE at h
    rw [if_pos hh] at h
    split at h
    · exact absurd h (by decide)
    · rename_i hc
      have hm : 0 ≤ b2i d.frag.more ∧ b2i d.frag.more ≤ 1 := by unfold b2i; split <;> decide
      unfold four
      intro x hx
      simp only [List.cons_append, List.nil_append, List.mem_cons, List.not_mem_nil, or_false] at hx
      rcases hx with rfl | rfl | rfl | rfl | rfl | rfl | rfl | rfl <;> omega
  · exact bts_nil
theorem ser6S_bts {d : Ip6D} (hd : d.ok) : Bts (ser6S d).1 := by
  rcases ser6S_cases d with ⟨_, e⟩ | ⟨h0, hf, hh, hfr, hl, e⟩
  · rw [e]; exact bts_nil
  · rw [e]
    have hk := firstK_range h0
    unfold fieldBad at hf
    refine Bts.append ?_ (hd.src.append (hd.dst.append ?_))
    · unfold head6
      intro x hx
      simp only [List.mem_cons, List.not_mem_nil, or_false] at hx
      rcases hx with rfl | rfl | rfl | rfl | rfl | rfl | rfl | rfl <;> omega
    · unfold bodyB
      exact (headersS_bts hd.exts).append ((fragB_bts hfr (by omega)).append hd.data)
theorem trb_facts : ∀ k : Nat, 1 ≤ k → k ≤ 7 → ∃ x0 x1 x2 x3 x4 x5 x6 : Int, trbT[k]? = some [x0, x1, x2, x3, x4, x5, x6] ∧ (x0 = 3 ∨ x0 = 11 ∨ x0 = 12) ∧ (0 ≤ x1 ∧ x1 ≤ 255) ∧ (1 ≤ x2 ∧ x2 ≤ 4) ∧ (0 ≤ x3 ∧ x3 ≤ 255) ∧ x5 ≤ 65535 ∧ ((x6 = 0 ∧ x4 ≤ 65535) ∨ (x6 = 24 ∧ x4 ≤ 255)) := by
  intro k h1 h2
  match k, h1, h2 with
  | 1, _, _ => exact ⟨_, _, _, _, _, _, _, rfl, by decide, by decide, by decide, by decide, by decide, by decide⟩
  | 2, _, _ => exact ⟨_, _, _, _, _, _, _, rfl, by decide, by decide, by decide, by decide, by decide, by decide⟩
  | 3, _, _ => exact ⟨_, _, _, _, _, _, _, rfl, by decide, by decide, by decide, by decide, by decide, by decide⟩
  | 4, _, _ => exact ⟨_, _, _, _, _, _, _, rfl, by decide, by decide, by decide, by decide, by decide, by decide⟩
  | 5, _, _ => exact ⟨_, _, _, _, _, _, _, rfl, by decide, by decide, by decide, by decide, by decide, by decide⟩
  | 6, _, _ => exact ⟨_, _, _, _, _, _, _, rfl, by decide, by decide, by decide, by decide, by decide, by decide⟩
  | 7, _, _ => exact ⟨_, _, _, _, _, _, _, rfl, by decide, by decide, by decide, by decide, by decide, by decide⟩
theorem getD_take0 {l : List Int} {n : Nat} (h : 0 < n) : (l.take n).getD 0 0 = l.getD 0 0 := by
  cases l with
  | nil => simp
  | cons x l => cases n with
    | zero => omega
    | succ n => rfl
end Go.Eng
namespace Go.Proofs.YtjngdcilnipjcaaDoor
namespace N6
open Go.Eng Go.RowKit
theorem onRet_is {A : Value → World → Prop} {Q : List PanicEntry → World → Prop} {v : Value} {w' : World} (h : A v w') : onRet A Q (.returned v) w' := h
section
variable {w : World} {t : TrbV}
theorem ser4_facts {h : Ip4V} {os : List OptR} {data : List Int} (hA : Ip4At w h os data) (hs : (ser4S (h.d os data)).2 = 0) : 20 ≤ (ser4S (h.d os data)).1.length ∧ (ser4S (h.d os data)).1.getD 0 0 / 16 = 4 ∧ Bts (ser4S (h.d os data)).1 := by
  have hc : check4S (h.d os data) = 0 := by
    unfold ser4S at hs
    split at hs
    · rename_i h1; exact absurd hs h1
    · rename_i h1; exact Classical.not_not.1 h1
  have ho := Ok4.of hc
  have hb : Bts (front4 (h.d os data) ++ ([sum4 (h.d os data) / 256, sum4 (h.d os data) % 256] ++ (back4 (h.d os data) ++ (h.d os data).data))) := by
    have hsum : 0 ≤ sum4 (h.d os data) ∧ sum4 (h.d os data) ≤ 65535 := by
      have := sumS_bound (l := front4 (h.d os data) ++ ([0, 0] ++ back4 (h.d os data))) ((front4_bts hA ho).append (Bts.append (bts_list rfl) (back4_bts hA)))
      unfold sum4; omega
    refine (front4_bts hA ho).append (Bts.append ?_ ((back4_bts hA).append hA.data.bts))
    intro x hx
    simp only [List.mem_cons, List.not_mem_nil, or_false] at hx
    rcases hx with rfl | rfl <;> omega
  have hp := putOpts4_len (h.d os data).opts
  unfold ser4S
  rw [if_neg (fun x => x hc)]
  refine ⟨?_, ?_, hb⟩
  · simp only [List.length_append]
    have : (front4 (h.d os data)).length = 10 := rfl
    have := back4_len (h.d os data)
    simp only [List.length_cons, List.length_nil]
    omega
  · show (64 + (((20 + (putOpts4 (h.d os data).opts).1.length) / 4 : Nat) : Int)) / 16 = 4
    omega
theorem comp4_facts {h : Ip4V} {os : List OptR} {data : List Int} {ty cd rs : Int} {bs : List Int} (hA : Ip4At w h os data) (hr : comp4S t (h.d os data) = some (ty, cd, rs, bs)) :
    (ty = 3 ∨ ty = 11 ∨ ty = 12) ∧ (0 ≤ cd ∧ cd ≤ 255) ∧ (0 ≤ rs ∧ rs ≤ 4294967295) ∧ 20 ≤ bs.length ∧ bs.length ≤ 548 ∧ bs.getD 0 0 / 16 = 4 ∧ Bts bs := by
  unfold comp4S at hr
  split at hr
  · rename_i hc
    have htr := of_decide_eq_true hc.1
    obtain ⟨x0, x1, x2, x3, x4, x5, x6, hl, k0, k1, k2, k3, k5, k6⟩ := trb_facts t.kind.toNat (by omega) (by omega)
    have hL : trbL t.kind = [x0, x1, x2, x3, x4, x5, x6] := by unfold trbL; rw [List.getD_eq_getElem?_getD, hl]; rfl
    have hle : t.extra ≤ x4 := by
      have := htr.2.2.2
      rw [if_pos rfl, hL] at this; exact this
    rw [hL] at hr
    injection hr with hr
    injection hr with e1 hr
    injection hr with e2 hr
    injection hr with e3 e4
    obtain ⟨f1, f2, f3⟩ := ser4_facts hA hc.2.2.1
    have e1 : x0 = ty := e1
    have e2 : x1 = cd := e2
    have e3 : t.extra * 2 ^ x6.toNat = rs := e3
    subst e1; subst e2; subst e3; subst e4
    refine ⟨k0, k1, ?_, ?_, ?_, ?_, f3.take _⟩
    · rcases k6 with ⟨rfl, k⟩ | ⟨rfl, k⟩
      · show 0 ≤ t.extra * 1 ∧ t.extra * 1 ≤ 4294967295; omega
      · show 0 ≤ t.extra * 16777216 ∧ t.extra * 16777216 ≤ 4294967295; omega
    · rw [List.length_take]; omega
    · rw [List.length_take]; omega
    · rw [getD_take0 (by decide)]; exact f2
  · cases hr
theorem ser6_facts {h : Ip6V} {es : List ExtR} {data : List Int} (hA : Ip6At w h es data) (hs : (ser6S (h.d es data)).2 = 0) : 40 ≤ (ser6S (h.d es data)).1.length ∧ (ser6S (h.d es data)).1.getD 0 0 / 16 = 6 ∧ Bts (ser6S (h.d es data)).1 ∧ h.src.v = 6 ∧ h.dst.v = 6 := by
  have hb := ser6S_bts hA.ok
  rcases ser6S_cases (h.d es data) with ⟨h0, _⟩ | ⟨_, hf, _, _, _, e⟩
  · exact absurd hs h0
  · have hf' := hf
    unfold fieldBad at hf'
    have hcls : (h.d es data).cls = h.cls := rfl
    have hsv : (h.d es data).src = h.src := rfl
    have hdv : (h.d es data).dst = h.dst := rfl
    rw [hsv, hdv] at hf'
    refine ⟨?_, ?_, hb, by omega, by omega⟩
    · rw [e]
      simp only [List.length_append]
      have : ∀ n, (head6 (h.d es data) n).length = 8 := fun _ => rfl
      have h1 : (h.d es data).src.bytes.length = 16 := rfl
      have h2 : (h.d es data).dst.bytes.length = 16 := rfl
      rw [this, h1, h2]
      omega
    · rw [e]
      show (96 + (h.d es data).cls / 16) / 16 = 6
      omega
theorem comp6_facts {h : Ip6V} {es : List ExtR} {data : List Int} {ty cd rs : Int} {bs : List Int} (hA : Ip6At w h es data) (hr : comp6S t (h.d es data) = some (ty, cd, rs, bs)) :
    (1 ≤ ty ∧ ty ≤ 4) ∧ (0 ≤ cd ∧ cd ≤ 255) ∧ (0 ≤ rs ∧ rs ≤ 65535) ∧ 40 ≤ bs.length ∧ bs.length ≤ 1232 ∧ bs.getD 0 0 / 16 = 6 ∧ Bts bs ∧ h.src.v = 6 ∧ h.dst.v = 6 := by
  unfold comp6S at hr
  split at hr
  · rename_i hc
    have htr := of_decide_eq_true hc.1
    obtain ⟨x0, x1, x2, x3, x4, x5, x6, hl, k0, k1, k2, k3, k5, k6⟩ := trb_facts t.kind.toNat (by omega) (by omega)
    have hL : trbL t.kind = [x0, x1, x2, x3, x4, x5, x6] := by unfold trbL; rw [List.getD_eq_getElem?_getD, hl]; rfl
    have hle : t.extra ≤ x5 := by
      have := htr.2.2.2
      rw [if_neg (by decide), hL] at this; exact this
    rw [hL] at hr
    injection hr with hr
    injection hr with e1 hr
    injection hr with e2 hr
    injection hr with e3 e4
    obtain ⟨f1, f2, f3, f4, f5⟩ := ser6_facts hA hc.2.2.1
    have e1 : x2 = ty := e1
    have e2 : x3 = cd := e2
    subst e1; subst e2; subst e3; subst e4
    refine ⟨k2, k3, by omega, ?_, ?_, ?_, f3.take _, f4, f5⟩
    · rw [List.length_take]; omega
    · rw [List.length_take]; omega
    · rw [getD_take0 (by decide)]; exact f2
  · cases hr
theorem Comp.ext {v : Int} {w w' : World} {r : Option (Int × Int × Int × List Int)} {e : Ending} (h : Comp v w r e w') : Ext w w' := by
  cases r with
  | none => exact h.2
  | some r => exact h.choose_spec.2.restOf 0 rfl
theorem told_spec (hT : Tb w) (hN : Nd.Tab w) (hW : Wd w) (hK : Kn w) : Calls Tryd.prog 35 #[] w fun e w' => Ext w w' ∧ e = .returned (.bool true) := by
  refine weirlaw8_told_of w _ ?_
  unfold weirlaw8_told_VC
  refine gone4_spec.mono ?_
  rintro _ w1 ⟨hE1, rfl⟩
  refine onRet_is (Ip4V.of goneV4 ⟨rfl, ?_⟩)
  refine (Complain4_spec (t := ⟨5, 0⟩) (gone4_at w1) (hT.ext hE1) (hN.ext hE1) (hW.ext hE1)).mono ?_
  intro e w2 hc
  have hE2 := hE1.trans hc.ext
  have h4 := told4
  cases hr : comp4S ⟨5, 0⟩ (goneV4.d [] []) with
  | none => rw [hr] at h4; cases h4
  | some r =>
    obtain ⟨ty, cd, rs, bs⟩ := r
    rw [hr] at hc h4
    injection h4 with h4
    injection h4 with ht hb
    have ht : ty = 11 := ht
    have hb : bs.length = 20 := hb
    obtain ⟨A, rfl, -⟩ := hc
    refine onRet_is (IcmV.of ⟨4, ty, cd, rs, ⟨A, bs.length, bs.length⟩⟩ ⟨_, rfl, NewVC.sep (Sep.start0 w2) fun g1 w3 H => Stores.sep H 1 rfl (IcmV.one ⟨4, ty, cd, rs, ⟨A, bs.length, bs.length⟩⟩) (Nat.le_refl _) (splice_all rfl) fun w4 H => ?_⟩)
    have hE4 := hE2.trans (H.restOf 0 rfl)
    refine gone6_spec.mono ?_
    rintro _ w5 ⟨hE5, rfl⟩
    have H := H.ext hE5
    have hE5 := hE4.trans hE5
    refine onRet_is (Ip6V.of goneV6 ⟨rfl, ?_⟩)
    refine (Complain6_spec (t := ⟨5, 0⟩) (gone6_at w5) (hT.ext hE5) (hN.ext hE5) (hK.ext hE5)).mono ?_
    intro e w6 hc
    have hE6 := hE5.trans hc.ext
    have H := H.ext hc.ext
    have h6 := told6
    cases hr6 : comp6S ⟨5, 0⟩ (goneV6.d [] []) with
    | none => rw [hr6] at h6; cases h6
    | some r6 =>
      obtain ⟨ty6, cd6, rs6, bs6⟩ := r6
      rw [hr6] at hc h6
      injection h6 with h6
      injection h6 with ht6 hb6
      have ht6 : ty6 = 3 := ht6
      have hb6 : bs6.length = 40 := hb6
      obtain ⟨A6, rfl, -⟩ := hc
      refine onRet_is (IcmV.of ⟨6, ty6, cd6, rs6, ⟨A6, bs6.length, bs6.length⟩⟩ ⟨_, rfl, NewVC.sep H fun g2 w7 H => Stores.sep H 2 rfl (IcmV.one ⟨6, ty6, cd6, rs6, ⟨A6, bs6.length, bs6.length⟩⟩) (Nat.le_refl _) (splice_all rfl) fun w8 H => ?_⟩)
      refine Br.t rfl (Br.t rfl ⟨_, H.cell 1 rfl 1 rfl, Br.yes ht ⟨_, H.cell 2 rfl 1 rfl, Br.yes ht6 ⟨_, _, _, H.cell 1 rfl 4 rfl, Br.yes (by rw [hb]; rfl) ⟨_, _, _, H.cell 2 rfl 4 rfl, hE2.trans (H.restOf 0 rfl), ?_⟩⟩⟩⟩)
      rw [hb6]; rfl
end
end N6
end Go.Proofs.YtjngdcilnipjcaaDoor
/- IcmpQuiet: nothing is told about what is told. -/
namespace Go.Proofs.YtjngdcilnipjcaaDoor
namespace N6
open Go.Eng Go.RowKit
section
variable {w : World} {t t2 : TrbV}
/-- The four that were handed in. -/
def qf (w0 : World) (g1 g2 g3 g4 : Nat) (t t2 : TrbV) (h : Ip4V) (g : Ip6V) : List Fct := [Fct.rest w0 None, Fct.blk g1 70 t.cells, Fct.blk g2 70 t2.cells, Fct.blk g3 73 h.cells, Fct.blk g4 83 g.cells]
theorem msg_serS {v ty cd rs : Int} {A : Option Addr} {n k : Nat} {bs : List Int} {src dst : IPV} (hv : v = 4 ∨ (v = 6 ∧ src.v = 6 ∧ dst.v = 6)) (h1 : 0 ≤ ty ∧ ty ≤ 255) (h2 : 0 ≤ cd ∧ cd ≤ 255) (h3 : 0 ≤ rs ∧ rs ≤ 4294967295) (hn : n ≤ 65507) :
    checkS ⟨v, ty, cd, rs, A, n, k⟩ = 0 ∧ (serS ⟨v, ty, cd, rs, A, n, k⟩ src dst bs).2 = 0 ∧ (serS ⟨v, ty, cd, rs, A, n, k⟩ src dst bs).1.length = 8 + bs.length ∧ (serS ⟨v, ty, cd, rs, A, n, k⟩ src dst bs).1.getD 0 0 = ty := by
  have hc : checkS ⟨v, ty, cd, rs, A, n, k⟩ = 0 := by
    unfold checkS
    simp only
    rw [if_neg (by omega), if_neg (by omega), if_neg (by omega)]
  unfold serS
  rw [if_neg (fun x => x hc), if_neg (fun x => by
    rcases hv with hv | ⟨_, hs, hd⟩
    · exact x.1 hv
    · exact x.2 ⟨hs, hd⟩)]
  refine ⟨hc, rfl, ?_, rfl⟩
  rw [List.length_append, headS_len]
theorem serS_bts {m : MsgV} {src dst : IPV} {bs : List Int} (hc : checkS m = 0) (hB : Bts bs) (hl : bs.length ≤ 60000) (hs : Bts src.bytes) (hd : Bts dst.bytes) : Bts (serS m src dst bs).1 := by
  have ho := checkS_ok hc
  unfold serS
  rw [if_neg (fun x => x hc)]
  split
  · exact bts_list rfl
  · have hh : Bts (headS m.t m.c 0 m.r ++ bs) := (headS_bts ho.2.1 ho.2.2.1 (by decide) ho.2.2.2.1).append hB
    have hb := sumS_bound (overS_bts (v := m.v) hs hd hh (by rw [List.length_append, headS_len]; omega))
    exact (headS_bts ho.2.1 ho.2.2.1 (by omega) ho.2.2.2.1).append hB
set_option maxHeartbeats 4000000 in
theorem quiet_six {h : Ip4V} {g : Ip6V} {es : List ExtR} {dt : List Int} {g1 g2 g3 g4 : Nat} {w19 : World} (hB : Ip6At w g es dt) (hT : Tb w) (hN : Nd.Tab w) (hK : Kn w) (H : Sep (qf w g1 g2 g3 g4 t t2 h g) w19) :
    weirlaw8_IcmpQuiet_J15 (fun e w' => e = .returned (.bool true) ∧ Ext w w') g1 g2 g4 w19 := by
  unfold weirlaw8_IcmpQuiet_J15
  refine TrbV.of t ⟨H.at 1 rfl, Ip6V.of g ⟨H.at 4 rfl, ?_⟩⟩
  have hE0 := H.restOf 0 rfl
  refine (Complain6_spec (t := t) (hB.ext hE0) (hT.ext hE0) (hN.ext hE0) (hK.ext hE0)).mono ?_
  intro e w1 hc
  cases hr : comp6S t (g.d es dt) with
  | none =>
    rw [hr] at hc
    have H := H.ext hc.ext
    obtain ⟨rfl, _⟩ := hc
    refine onRet_is (IcmV.of IcmV.z ⟨false, rfl, NewVC.sep H fun g5 w2 H => Stores.sep H 5 rfl (IcmV.one _) (Nat.le_refl _) (splice_all rfl) fun w3 H => Br.t rfl ⟨rfl, H.restOf 0 rfl⟩⟩)
  | some r =>
    obtain ⟨ty, cd, rs, bs⟩ := r
    obtain ⟨f1, f2, f3, f4, f5, f6, f7, f8, f9⟩ := comp6_facts (t := t) hB hr
    rw [hr] at hc
    obtain ⟨A, rfl, HC⟩ := hc
    have H := H.mades HC
    refine onRet_is (IcmV.of ⟨6, ty, cd, rs, ⟨A, bs.length, bs.length⟩⟩ ⟨_, rfl, NewVC.sep H fun g5 w2 H => Stores.sep H 6 rfl (IcmV.one ⟨6, ty, cd, rs, ⟨A, bs.length, bs.length⟩⟩) (Nat.le_refl _) (splice_all rfl) fun w3 H => ?_⟩)
    refine Br.f rfl (IPV.of g.dst ⟨ip6_dst (H.blk 4 rfl), IPV.of g.src ⟨ip6_src (H.blk 4 rfl), IcmV.of ⟨6, ty, cd, rs, ⟨A, bs.length, bs.length⟩⟩ ⟨H.at 6 rfl, ?_⟩⟩⟩)
    obtain ⟨c1, c2, c3, c4⟩ := msg_serS (v := 6) (A := A) (n := bs.length) (k := bs.length) (bs := bs) (src := g.dst) (dst := g.src) (.inr ⟨rfl, f9, f8⟩) (show 0 ≤ ty ∧ ty ≤ 255 by omega) f2 (show 0 ≤ rs ∧ rs ≤ 4294967295 by omega) (by omega)
    have cb := serS_bts (src := g.dst) (dst := g.src) c1 f7 (by omega) hB.dst hB.src
    refine (Go.Proofs.YtjngdcilnipjcaaDoor.serialise_spec (m := ⟨6, ty, cd, rs, A, bs.length, bs.length⟩) (src := g.dst) (dst := g.src) (H.winCells 5 rfl) rfl f7 (by show bs.length ≤ _; omega) hB.dst hB.src).mono ?_
    rintro _ w4 ⟨hE4, W, wc, rfl, hrow⟩
    obtain ⟨ds, hds⟩ : ∃ ds, ds = (serS ⟨6, ty, cd, rs, A, bs.length, bs.length⟩ g.dst g.src bs).1 := ⟨_, rfl⟩
    have H := H.pushOwn hE4 hrow (Nat.le_refl _)
    rw [← hds] at c3 c4 cb H ⊢
    refine ⟨_, _, _, _, rfl, ?_⟩
    refine gone6_spec.mono ?_
    rintro _ w5 ⟨hE5, rfl⟩
    have H := H.ext hE5
    refine onRet_is (Ip6V.of goneV6 ⟨rfl, NewVC.sep H fun g9 w6 H => Stores.sep H 8 rfl (Ip6V.one goneV6) (Nat.le_refl _) (splice_all rfl) fun w7 H => SetVC.sep H 8 rfl (show 42 < 44 by decide) fun w8 H => SetVC.sep H 8 rfl (show 43 < 44 by decide) fun w9 H => ?_⟩)
    refine TrbV.of t2 ⟨H.at 2 rfl, Ip6V.of { goneV6 with next := 58, data := ⟨W, ds.length, wc⟩ } ⟨H.at 8 rfl, ?_⟩⟩
    have hE9 := H.restOf 0 rfl
    have hq : Ip6At w9 { goneV6 with next := 58, data := ⟨W, ds.length, wc⟩ } [] ds := ⟨ExtsAt.nil _ _ _, bytesAt_of (s := ⟨W, ds.length, wc⟩) (b := w3.heap.size) (H.own 7 rfl) ⟨by show ds.length ≤ 4000000; omega, cb⟩, (gone6_at w9).src, (gone6_at w9).dst⟩
    refine (Complain6_spec (t := t2) hq (hT.ext hE9) (hN.ext hE9) (hK.ext hE9)).mono ?_
    intro e w10 hc
    have hno : comp6S t2 (({ goneV6 with next := 58, data := ⟨W, ds.length, wc⟩ } : Ip6V).d [] ds) = none := by
      unfold comp6S
      refine if_neg fun x => of_decide_eq_false x.2.2.2.1 ⟨rfl, by show 0 < ds.length; omega, .inl ?_⟩
      show ds.getD 0 0 < 128
      omega
    have H := H.ext hc.ext
    rw [hno] at hc
    obtain ⟨rfl, _⟩ := hc
    refine onRet_is (IcmV.of IcmV.z ⟨false, rfl, NewVC.sep H fun g10 w11 H => Stores.sep H 9 rfl (IcmV.one _) (Nat.le_refl _) (splice_all rfl) fun w12 H => ?_⟩)
    refine Br.yes c2 (Br.t rfl (IcmV.of ⟨6, ty, cd, rs, ⟨A, bs.length, bs.length⟩⟩ ⟨H.at 6 rfl, ?_⟩))
    refine (Go.Proofs.YtjngdcilnipjcaaDoor.check_spec ⟨6, ty, cd, rs, A, bs.length, bs.length⟩ (by show bs.length ≤ _; omega)).mono ?_
    rintro _ w13 ⟨hE13, rfl⟩
    have H := H.ext hE13
    refine ⟨_, rfl, Br.yes c1 (Br.yes (by omega) ⟨_, _, _, H.cell 6 rfl 4 rfl, Br.yes (by show (40 : Int) ≤ (bs.length : Int); omega) ⟨_, _, _, H.cell 6 rfl 4 rfl, ?_⟩⟩)⟩
    refine IdxVC.int (k := .u8) (xs := bs) (H.winCells 5 rfl) (by decide) (by show (0 : Int) < (bs.length : Int); omega) rfl fun a ha => ⟨_, ha, ?_, H.restOf 0 rfl⟩
    have e0 : bs.getD (0 : Int).toNat 0 = bs.getD 0 0 := rfl
    rw [e0, Int.fdiv_eq_ediv_of_nonneg _ (by decide), decide_eq_true f6]
set_option maxHeartbeats 4000000 in
theorem quiet_law {h : Ip4V} {os : List OptR} {data : List Int} {g : Ip6V} {es : List ExtR} {dt : List Int} (hA : Ip4At w h os data) (hB : Ip6At w g es dt) (hT : Tb w) (hN : Nd.Tab w) (hW : Wd w) (hK : Kn w) :
    Calls Tryd.prog 12 #[t.val, t2.val, h.val, g.val] w fun e w' => e = .returned (.bool true) ∧ Ext w w' := by
  refine weirlaw8_IcmpQuiet_of t t2 h g w _ ?_
  unfold weirlaw8_IcmpQuiet_VC
  refine NewVC.sep (Sep.start0 w) fun g1 w1 H => NewVC.sep H fun g2 w2 H => NewVC.sep H fun g3 w3 H => NewVC.sep H fun g4 w4 H => ?_
  have H : Sep (qf w g1 g2 g3 g4 t t2 h g) w4 := H
  have hE4 := H.restOf 0 rfl
  refine (told_spec (hT.ext hE4) (hN.ext hE4) (hW.ext hE4) (hK.ext hE4)).mono ?_
  rintro _ w5 ⟨hE5, rfl⟩
  have H := H.ext hE5
  refine ⟨_, rfl, Br.f rfl (TrbV.of t ⟨H.at 1 rfl, Ip4V.of h ⟨H.at 3 rfl, ?_⟩⟩)⟩
  have hE5 := H.restOf 0 rfl
  refine (Complain4_spec (t := t) (hA.ext hE5) (hT.ext hE5) (hN.ext hE5) (hW.ext hE5)).mono ?_
  intro e w6 hc
  cases hr : comp4S t (h.d os data) with
  | none =>
    rw [hr] at hc
    have H := H.ext hc.ext
    obtain ⟨rfl, _⟩ := hc
    refine onRet_is (IcmV.of IcmV.z ⟨false, rfl, NewVC.sep H fun g5 w7 H => Stores.sep H 5 rfl (IcmV.one _) (Nat.le_refl _) (splice_all rfl) fun w8 H => ?_⟩)
    exact JoinVC.of (fun _ w' => Sep (qf w g1 g2 g3 g4 t t2 h g) w') (Br.f rfl (H.take 5)) fun _ w' H => quiet_six hB hT hN hK H
  | some r =>
    obtain ⟨ty, cd, rs, bs⟩ := r
    obtain ⟨f1, f2, f3, f4, f5, f6, f7⟩ := comp4_facts (t := t) hA hr
    rw [hr] at hc
    obtain ⟨A, rfl, HC⟩ := hc
    have H := H.mades HC
    refine onRet_is (IcmV.of ⟨4, ty, cd, rs, ⟨A, bs.length, bs.length⟩⟩ ⟨_, rfl, NewVC.sep H fun g5 w7 H => Stores.sep H 6 rfl (IcmV.one ⟨4, ty, cd, rs, ⟨A, bs.length, bs.length⟩⟩) (Nat.le_refl _) (splice_all rfl) fun w8 H => ?_⟩)
    refine JoinVC.of (fun _ w' => Sep (qf w g1 g2 g3 g4 t t2 h g) w') (Br.t rfl ?_) fun _ w' H => quiet_six hB hT hN hK H
    refine IPV.of h.dst ⟨ip4_dst (H.blk 3 rfl), IPV.of h.src ⟨ip4_src (H.blk 3 rfl), IcmV.of ⟨4, ty, cd, rs, ⟨A, bs.length, bs.length⟩⟩ ⟨H.at 6 rfl, ?_⟩⟩⟩
    obtain ⟨c1, c2, c3, c4⟩ := msg_serS (v := 4) (A := A) (n := bs.length) (k := bs.length) (bs := bs) (src := h.dst) (dst := h.src) (.inl rfl) (show 0 ≤ ty ∧ ty ≤ 255 by omega) f2 f3 (by omega)
    have cb := serS_bts (src := h.dst) (dst := h.src) c1 f7 (by omega) hA.dst hA.src
    refine (Go.Proofs.YtjngdcilnipjcaaDoor.serialise_spec (m := ⟨4, ty, cd, rs, A, bs.length, bs.length⟩) (src := h.dst) (dst := h.src) (H.winCells 5 rfl) rfl f7 (by show bs.length ≤ _; omega) hA.dst hA.src).mono ?_
    rintro _ w9 ⟨hE9, W, wc, rfl, hrow⟩
    obtain ⟨ds, hds⟩ : ∃ ds, ds = (serS ⟨4, ty, cd, rs, A, bs.length, bs.length⟩ h.dst h.src bs).1 := ⟨_, rfl⟩
    have H := H.pushOwn hE9 hrow (Nat.le_refl _)
    rw [← hds] at c3 c4 cb H ⊢
    refine ⟨_, _, _, _, rfl, ?_⟩
    refine gone4_spec.mono ?_
    rintro _ w10 ⟨hE10, rfl⟩
    have H := H.ext hE10
    refine onRet_is (Ip4V.of goneV4 ⟨rfl, NewVC.sep H fun g6 w11 H => Stores.sep H 8 rfl (Ip4V.one goneV4) (Nat.le_refl _) (splice_all rfl) fun w12 H => SetVC.sep H 8 rfl (show 6 < 43 by decide) fun w13 H => SetVC.sep H 8 rfl (show 42 < 43 by decide) fun w14 H => ?_⟩)
    refine TrbV.of t2 ⟨H.at 2 rfl, Ip4V.of { goneV4 with proto := 1, data := ⟨W, ds.length, wc⟩ } ⟨H.at 8 rfl, ?_⟩⟩
    have hE14 := H.restOf 0 rfl
    have hq : Ip4At w14 { goneV4 with proto := 1, data := ⟨W, ds.length, wc⟩ } [] ds := ⟨OptsAt.nil _ _ _, bytesAt_of (s := ⟨W, ds.length, wc⟩) (b := w8.heap.size) (H.own 7 rfl) ⟨by show ds.length ≤ 4000000; omega, cb⟩, (gone4_at w14).src, (gone4_at w14).dst⟩
    refine (Complain4_spec (t := t2) hq (hT.ext hE14) (hN.ext hE14) (hW.ext hE14)).mono ?_
    intro e w15 hc
    have hno : comp4S t2 (({ goneV4 with proto := 1, data := ⟨W, ds.length, wc⟩ } : Ip4V).d [] ds) = none := by
      unfold comp4S
      refine if_neg fun x => of_decide_eq_false x.2.2.2.1 ⟨rfl, by show 0 < ds.length; omega, ?_⟩
      show ds.getD 0 0 = 3 ∨ ds.getD 0 0 = 4 ∨ ds.getD 0 0 = 5 ∨ ds.getD 0 0 = 11 ∨ ds.getD 0 0 = 12
      omega
    have H := H.ext hc.ext
    rw [hno] at hc
    obtain ⟨rfl, _⟩ := hc
    refine onRet_is (IcmV.of IcmV.z ⟨false, rfl, NewVC.sep H fun g7 w16 H => Stores.sep H 9 rfl (IcmV.one _) (Nat.le_refl _) (splice_all rfl) fun w17 H => ?_⟩)
    refine Br.no (fun x => x c2) (Br.f rfl (IcmV.of ⟨4, ty, cd, rs, ⟨A, bs.length, bs.length⟩⟩ ⟨H.at 6 rfl, ?_⟩))
    refine (Go.Proofs.YtjngdcilnipjcaaDoor.check_spec ⟨4, ty, cd, rs, A, bs.length, bs.length⟩ (by show bs.length ≤ _; omega)).mono ?_
    rintro _ w18 ⟨hE18, rfl⟩
    have H := H.ext hE18
    refine ⟨_, rfl, Br.no (fun x => x c1) (Br.no (by omega) ⟨_, _, _, H.cell 6 rfl 4 rfl, Br.no (by show ¬ (bs.length : Int) < 20; omega) ⟨_, _, _, H.cell 6 rfl 4 rfl, ?_⟩⟩)⟩
    refine IdxVC.int (k := .u8) (xs := bs) (H.winCells 5 rfl) (by decide) (by show (0 : Int) < (bs.length : Int); omega) rfl fun a ha => ⟨_, ha, Br.no (fun x => x ?_) (H.take 5)⟩
    have e0 : bs.getD (0 : Int).toNat 0 = bs.getD 0 0 := rfl
    rw [e0, Int.fdiv_eq_ediv_of_nonneg _ (by decide)]
    exact f6
end
end N6
end Go.Proofs.YtjngdcilnipjcaaDoor
