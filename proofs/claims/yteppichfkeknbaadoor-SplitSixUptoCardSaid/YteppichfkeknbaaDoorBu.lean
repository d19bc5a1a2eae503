/- SplitMay4: each piece may be, is as long as can be, and stays when it is cut again. -/
import Derived.Test.YteppichfkeknbaaDoorBn
import Derived.Test.YteppichfkeknbaaDoorBs
import Derived.Test.YteppichfkeknbaaDoorBt
namespace Go.Proofs.YteppichfkeknbaaDoor
namespace N6
open Go.Eng Go.RowKit
section
variable {w : World}
theorem one_of {α β : Type} {f : α → β} {l : List α} {x : β} (h : l.map f = [x]) : ∃ a, l = [a] ∧ f a = x := by
  match l, h with
  | [a], h => simp at h; exact ⟨a, rfl, h⟩
set_option maxHeartbeats 1000000 in
theorem may4_law {h : Ip4V} {os : List OptR} {data : List Int} {mtu : Int} (hA : Ip4At w h os data) (hW : Wd w) (hK : Kn w) : Calls Tryd.prog 10 #[h.val, .int .i64 mtu] w fun e w' => e = .returned (.bool true) ∧ Ext w w' := by
  refine weirlaw13_SplitMay4_of h mtu w _ ?_
  unfold weirlaw13_SplitMay4_VC
  refine NewVC.sep (Sep.start0 w) fun g1 w1 H => Ip4V.of h ⟨H.at 1 rfl, ?_⟩
  refine (split4_spec (mtu := mtu) (hA.ext (H.restOf 0 rfl))).mono ?_
  intro e w2 hc
  obtain ⟨s, rs, rfl, hrs, hat, hE2⟩ := hc.at
  have H := H.ext hE2
  have hE0 := H.restOf 0 rfl
  refine ⟨_, _, _, _, rfl, ?_⟩
  refine num_spec.mono ?_
  rintro _ w3 ⟨hw3, rfl⟩
  subst w3
  have hsn := hat.len
  have hsm := hat.small
  refine ⟨_, rfl, Br.dec (fun hne => ?_) fun heq => ?_⟩
  · refine (started_spec (hK.ext hE0)).mono ?_
    rintro _ w4 ⟨hE4, rfl⟩
    refine ⟨_, rfl, Br.t rfl ⟨?_, hE0.trans hE4⟩⟩
    have hnil : (split4S (h.d os data) mtu).1 = [] := by
      unfold split4S at hne ⊢
      split
      · rfl
      · rename_i h1
        rw [if_neg h1] at hne
        split
        · rfl
        · rename_i h2
          rw [if_neg h2] at hne
          split
          · rename_i h3; rw [if_pos h3] at hne; exact absurd rfl hne
          · rename_i h3
            rw [if_neg h3] at hne
            split
            · rfl
            · rename_i h4; rw [if_neg h4] at hne; exact absurd rfl hne
    rw [hnil] at hrs
    have : rs.length = 0 := by have := congrArg List.length hrs; simpa using this
    rw [decide_eq_true (by omega)]
  have heq : (split4S (h.d os data) mtu).2 = 0 := by omega
  obtain ⟨hchk, m1, m2, xs, hxs, hxn, hfit, _⟩ := split4_fit heq
  rw [hxs] at hrs
  have hlen : rs.length = xs.length := by have := congrArg List.length hrs; simpa using this
  have hxpos : 0 < xs.length := Nat.pos_of_ne_zero fun e => hxn (List.eq_nil_of_length_eq_zero e)
  obtain ⟨m, rfl⟩ : ∃ m : Nat, mtu = m := ⟨mtu.toNat, by omega⟩
  rw [Int.toNat_natCast] at hfit
  refine Br.no (by omega) ?_
  refine LoopVC.of (fun st w' => ∃ i : Nat, st = (i : Int) ∧ i ≤ xs.length ∧ Ext w2 w') (fun st _ => ((xs.length : Int) - st).toNat) ⟨0, rfl, Nat.zero_le _, Mod.refl _ _⟩ ?_
  rintro _ w5 ⟨i, rfl, hi', hE5⟩
  unfold weirlaw13_SplitMay4_L250
  refine Br.dec (fun hlt => ?_) fun hge => ?_
  · have hix : i < xs.length := by omega
    have hri : rs[i]? = some rs[i] := List.getElem?_eq_getElem (by omega)
    have hxi : xs[i]? = some xs[i] := List.getElem?_eq_getElem hix
    have hrd : rs[i].d = piece4 (h.d os data) xs[i] := by
      have := congrArg (·[i]?) hrs
      simpa [List.getElem?_map, hri, hxi] using this
    obtain ⟨p1, p2, p3, p4⟩ := piece4_ok hchk ⟨by omega, by omega⟩ hfit hxi
    obtain ⟨k1, k2, k3, k4, k5, k6, _, _⟩ := hfit.mem hxi
    have h4 := hd4_two (h.d os data)
    rw [← hrd] at p1 p2 p3 p4
    obtain ⟨s1, s2⟩ := ser4S_len p1
    have hrAt := hat.each rs[i] (List.getElem_mem _)
    have hrl : rs[i].v.data.n = xs[i].2 := by rw [← hrAt.data.len]; exact p2
    have hi1 : IntKind.i64.wrap ((i : Int) + 1) = ((i + 1 : Nat) : Int) := by rw [w64 (by omega) (by omega)]; omega
    refine (hat.ext hE5).idx hri fun a ha => Ip4V.of rs[i].v ⟨ha, ?_⟩
    refine (serialise4_spec (hrAt.ext hE5) (hW.ext (hE0.trans hE5))).mono ?_
    rintro _ w6 ⟨SA, sc, rfl, H6⟩
    rw [show rs[i].v.d rs[i].opts rs[i].data = rs[i].d from rfl, s1, s2, p2]
    have hE6 := hE5.trans (H6.restOf 0 rfl)
    refine ⟨_, _, _, _, rfl, ?_⟩
    refine num_spec.mono ?_
    rintro _ w7 ⟨hw7, rfl⟩
    subst w7
    refine ⟨_, rfl, Br.no (by decide) (Br.no (by omega) ?_)⟩
    refine (hat.ext hE6).idx hri fun a1 ha1 => Ip4V.of rs[i].v ⟨ha1, ?_⟩
    refine (fits4_spec (hrAt.ext hE6)).mono ?_
    rintro _ w8 ⟨hE8, rfl⟩
    have hE8 := hE6.trans hE8
    have hlenr : rs[i].data.length = xs[i].2 := p2
    have hfits : decide (check4S (rs[i].v.d rs[i].opts rs[i].data) = 0 ∧ ((hd4 (rs[i].v.d rs[i].opts rs[i].data) + rs[i].data.length : Nat) : Int) ≤ (m : Int)) = true := by
      rw [show rs[i].v.d rs[i].opts rs[i].data = rs[i].d from rfl, hlenr]
      exact decide_eq_true ⟨p1, by omega⟩
    rw [hfits]
    refine ⟨_, rfl, Br.f rfl ?_⟩
    refine JoinVC.of (fun _ w' => w' = w8) ?_ ?_
    · rw [hi1, w64 (n := ((hd4 rs[i].d + xs[i].2 : Nat) : Int) + 8) (by omega) (by omega)]
      refine Br.dec (fun hm => ?_) fun _ => rfl
      have k6 := k6 (by omega)
      have hroom : room (hd4 (h.d os data)) (hd4k (h.d os data)) m xs[i].1 = m - hd4 rs[i].d := by
        rw [p3]; unfold room; split <;> rfl
      rw [hroom] at k6
      refine Br.no (by omega) ?_
      refine (hat.ext hE8).idx hri fun a2 ha2 => ⟨_, _, _, cells_get ha2 42 rfl, ?_⟩
      rw [hrl, Int.tmod_eq_emod_of_nonneg (by omega)]
      refine Br.no (by omega) ?_
      refine (hat.ext hE8).idx hri fun a3 ha3 => ⟨_, _, _, cells_get ha3 42 rfl, ?_⟩
      rw [hrl]
      exact Br.no (by omega) rfl
    rintro _ w9 hw9
    subst w9
    unfold weirlaw13_SplitMay4_J16019
    refine (hat.ext hE8).idx hri fun a4 ha4 => Ip4V.of rs[i].v ⟨ha4, ?_⟩
    refine (split4_spec (mtu := (m : Int)) (hrAt.ext hE8)).mono ?_
    intro e w10 hc
    obtain ⟨s', rs', rfl, hrs', hat', hE10⟩ := hc.at
    have hE10 := hE8.trans hE10
    rw [show rs[i].v.d rs[i].opts rs[i].data = rs[i].d from rfl, split4_again p1 ⟨by omega, by omega⟩ (by rw [p2]; omega)] at hrs' ⊢
    obtain ⟨r', rfl, hr'⟩ := one_of hrs'
    have hs1 : s'.n = 1 := hat'.len.symm
    refine ⟨_, _, _, _, rfl, DrawVC.of (fun w' => Ip4sAt w' s rs ∧ Ip4sAt w' s' [r']) fun w11 hE11 _ => ⟨⟨hat.ext (hE10.trans hE11), hat'.ext hE11⟩, ?_⟩⟩
    have hS : Ip4sAt w11 s rs ∧ Ip4sAt w11 s' [r'] := ⟨hat.ext (hE10.trans hE11), hat'.ext hE11⟩
    have hE11 := hE10.trans hE11
    refine num_spec.mono ?_
    rintro _ w12 ⟨hw12, rfl⟩
    subst w12
    refine ⟨_, rfl, hS, Br.no (fun h => h rfl) (Br.no (by omega) ?_)⟩
    refine Ip4sAt.idxD (i := 0) (S := fun w' => Ip4sAt w' s rs ∧ Ip4sAt w' s' [r']) hS (fun w' h => h.2) (r := r') rfl fun a5 ha5 => Ip4V.of r'.v ⟨ha5, ?_⟩
    refine Ip4sAt.idxD (S := fun w' => Ip4sAt w' s rs ∧ Ip4sAt w' s' [r']) hS (fun w' h => h.1) hri fun a6 ha6 => Ip4V.of rs[i].v ⟨ha6, ?_⟩
    refine (same4_spec (hS.2.each r' (by simp)) (hS.1.each _ (List.getElem_mem _))).mono ?_
    rintro _ w13 ⟨b, rfl, hb, hE13⟩
    have hbt := hb.2 hr'
    subst hbt
    refine ⟨_, rfl, ⟨hS.1.ext hE13, hS.2.ext hE13⟩, Br.f rfl ?_⟩
    rw [hi1]
    exact ⟨⟨i + 1, rfl, by omega, hE11.trans hE13⟩, by omega⟩
  · refine (started_spec (hK.ext (hE0.trans hE5))).mono ?_
    rintro _ w14 ⟨hE14, rfl⟩
    exact ⟨_, rfl, rfl, (hE0.trans hE5).trans hE14⟩
end
end N6
end Go.Proofs.YteppichfkeknbaaDoor
