/- SplitMay6: each piece may be, is as long as can be, and stays when it is cut again. -/
import Derived.Test.YteppichfkeknbaaDoorBu
import Derived.Test.YteppichfkeknbaaDoorBv
namespace Go.Proofs.YteppichfkeknbaaDoor
namespace N6
open Go.Eng Go.RowKit
section
variable {w : World}
theorem split6_nil {d : Ip6D} {mtu id : Int} (h : (split6S d mtu id).2 ≠ 0) : (split6S d mtu id).1 = [] := by
  unfold split6S at h ⊢
  split
  · rfl
  · rename_i h1
    rw [if_neg h1] at h
    split
    · rfl
    · rename_i h2
      rw [if_neg h2] at h
      split
      · rfl
      · rename_i h3
        rw [if_neg h3] at h
        split
        · rename_i h4; rw [if_pos h4] at h; exact absurd rfl h
        · rename_i h4
          rw [if_neg h4] at h
          split
          · rfl
          · rename_i h5
            rw [if_neg h5] at h
            split
            · rfl
            · rename_i h6; rw [if_neg h6] at h; exact absurd rfl h
set_option maxHeartbeats 1000000 in
theorem may6_law {h : Ip6V} {es : List ExtR} {data : List Int} {mtu id : Int} (hA : Ip6At w h es data) (hK : Kn w) : Calls Tryd.prog 8 #[h.val, .int .i64 mtu, .int .i64 id] w fun e w' => e = .returned (.bool true) ∧ Ext w w' := by
  refine weirlaw13_SplitMay6_of h mtu id w _ ?_
  unfold weirlaw13_SplitMay6_VC
  refine NewVC.sep (Sep.start0 w) fun g1 w1 H => Ip6V.of h ⟨H.at 1 rfl, ?_⟩
  refine (split6_spec (mtu := mtu) (id := id) (hA.ext (H.restOf 0 rfl)) (hK.ext (H.restOf 0 rfl))).mono ?_
  intro e w2 hc
  obtain ⟨s, rs, rfl, hrs, hat, hE2⟩ := hc.at
  have H := H.ext hE2
  have hE0 := H.restOf 0 rfl
  refine ⟨_, _, _, _, rfl, ?_⟩
  refine num_spec.mono ?_
  rintro _ w3 ⟨hw3, rfl⟩
  subst w3
  have hsn := hat.len
  have hsm := hat.small
  have hlen : rs.length = (split6S (h.d es data) mtu id).1.length := by have := congrArg List.length hrs; simpa using this
  refine ⟨_, rfl, Br.dec (fun hne => ?_) fun heq => ?_⟩
  · refine (started_spec (hK.ext hE0)).mono ?_
    rintro _ w4 ⟨hE4, rfl⟩
    refine ⟨_, rfl, Br.t rfl ⟨?_, hE0.trans hE4⟩⟩
    rw [split6_nil hne] at hlen
    rw [decide_eq_true (by rw [List.length_nil] at hlen; omega)]
  have heq : (split6S (h.d es data) mtu id).2 = 0 := by omega
  obtain ⟨hnn, hall⟩ := may6 heq
  obtain ⟨_, m1, m2, _, _, _⟩ := split6_fit heq
  have hpos : 0 < rs.length := by rw [hlen]; exact Nat.pos_of_ne_zero fun e => hnn (List.eq_nil_of_length_eq_zero e)
  refine Br.no (by omega) ?_
  refine LoopVC.of (fun st w' => ∃ i : Nat, st = (i : Int) ∧ i ≤ rs.length ∧ Ext w2 w') (fun st _ => ((rs.length : Int) - st).toNat) ⟨0, rfl, Nat.zero_le _, Mod.refl _ _⟩ ?_
  rintro _ w5 ⟨i, rfl, hi', hE5⟩
  unfold weirlaw13_SplitMay6_L250
  refine Br.dec (fun hlt => ?_) fun hge => ?_
  · have hri : rs[i]? = some rs[i] := List.getElem?_eq_getElem (by omega)
    have hq : (split6S (h.d es data) mtu id).1[i]? = some rs[i].d := by rw [← hrs, List.getElem?_map, hri]; rfl
    obtain ⟨p1, p2, p3, p4⟩ := hall i _ hq
    have hrAt := hat.each rs[i] (List.getElem_mem _)
    have hrl : rs[i].data.length = rs[i].v.data.n := hrAt.data.len
    have hdl : rs[i].d.data.length = rs[i].data.length := rfl
    have hsl := ser6S_len rs[i].d
    have hspos : (ser6S rs[i].d).1.length ≠ 0 := by
      rcases ser6S_cases rs[i].d with ⟨h0, _⟩ | ⟨_, _, _, _, _, e⟩
      · exact absurd p1 h0
      · rw [e, List.length_append]
        have : ∀ n, (head6 rs[i].d n).length = 8 := fun _ => rfl
        rw [this]; omega
    have hi1 : IntKind.i64.wrap ((i : Int) + 1) = ((i + 1 : Nat) : Int) := by rw [w64 (by omega) (by omega)]; omega
    refine (hat.ext hE5).idx hri fun a ha => Ip6V.of rs[i].v ⟨ha, ?_⟩
    refine (size6_spec (hrAt.ext hE5) (hK.ext (hE0.trans hE5))).mono ?_
    rintro _ w6 ⟨hE6, rfl⟩
    rw [show rs[i].v.d rs[i].exts rs[i].data = rs[i].d from rfl]
    have hE6 := hE5.trans hE6
    refine ⟨_, rfl, Br.no (by omega) (Br.no (by omega) ?_)⟩
    refine (hat.ext hE6).idx hri fun a1 ha1 => Ip6V.of rs[i].v ⟨ha1, ?_⟩
    refine (fits6_spec (mtu := mtu) (hrAt.ext hE6) (hK.ext (hE0.trans hE6))).mono ?_
    rintro _ w7 ⟨hE7, rfl⟩
    have hE7 := hE6.trans hE7
    have hfits : decide ((ser6S (rs[i].v.d rs[i].exts rs[i].data)).2 = 0 ∧ (((ser6S (rs[i].v.d rs[i].exts rs[i].data)).1.length : Nat) : Int) ≤ mtu) = true := decide_eq_true ⟨p1, p2⟩
    rw [hfits]
    refine ⟨_, rfl, Br.f rfl ?_⟩
    refine JoinVC.of (fun _ w' => w' = w7) ?_ ?_
    · rw [hi1, w64 (n := (((ser6S rs[i].d).1.length : Nat) : Int) + 8) (by omega) (by omega)]
      refine Br.dec (fun hm => ?_) fun _ => rfl
      obtain ⟨q1, q2, q3⟩ := p4 (by omega)
      rw [hdl, hrl] at q2 q3
      refine Br.no (by omega) ?_
      refine (hat.ext hE7).idx hri fun a2 ha2 => ⟨_, _, _, cells_get ha2 43 rfl, ?_⟩
      rw [Int.tmod_eq_emod_of_nonneg (by omega)]
      refine Br.no (by omega) ?_
      refine (hat.ext hE7).idx hri fun a3 ha3 => ⟨_, _, _, cells_get ha3 43 rfl, ?_⟩
      exact Br.no (by omega) rfl
    rintro _ w8 hw8
    subst w8
    unfold weirlaw13_SplitMay6_J16019
    refine (hat.ext hE7).idx hri fun a4 ha4 => Ip6V.of rs[i].v ⟨ha4, ?_⟩
    refine (split6_spec (mtu := mtu) (id := id) (hrAt.ext hE7) (hK.ext (hE0.trans hE7))).mono ?_
    intro e w9 hc
    obtain ⟨s', rs', rfl, hrs', hat', hE9⟩ := hc.at
    have hE9 := hE7.trans hE9
    rw [show rs[i].v.d rs[i].exts rs[i].data = rs[i].d from rfl, p3] at hrs' ⊢
    obtain ⟨r', rfl, hr'⟩ := one_of hrs'
    have hs1 : s'.n = 1 := hat'.len.symm
    refine ⟨_, _, _, _, rfl, DrawVC.of (fun w' => Ip6sAt w' s rs ∧ Ip6sAt w' s' [r']) fun w10 hE10 _ => ⟨⟨hat.ext (hE9.trans hE10), hat'.ext hE10⟩, ?_⟩⟩
    have hS : Ip6sAt w10 s rs ∧ Ip6sAt w10 s' [r'] := ⟨hat.ext (hE9.trans hE10), hat'.ext hE10⟩
    have hE10 := hE9.trans hE10
    refine num_spec.mono ?_
    rintro _ w11 ⟨hw11, rfl⟩
    subst w11
    refine ⟨_, rfl, hS, Br.no (fun h => h rfl) (Br.no (by omega) ?_)⟩
    refine Ip6sAt.idxD (i := 0) (S := fun w' => Ip6sAt w' s rs ∧ Ip6sAt w' s' [r']) hS (fun w' h => h.2) (r := r') rfl fun a5 ha5 => Ip6V.of r'.v ⟨ha5, ?_⟩
    refine Ip6sAt.idxD (S := fun w' => Ip6sAt w' s rs ∧ Ip6sAt w' s' [r']) hS (fun w' h => h.1) hri fun a6 ha6 => Ip6V.of rs[i].v ⟨ha6, ?_⟩
    refine (same6_spec (hS.2.each r' (by simp)) (hS.1.each _ (List.getElem_mem _))).mono ?_
    rintro _ w12 ⟨b, rfl, hb, hE12⟩
    have hbt := hb.2 hr'
    subst hbt
    refine ⟨_, rfl, ⟨hS.1.ext hE12, hS.2.ext hE12⟩, Br.f rfl ?_⟩
    rw [hi1]
    exact ⟨⟨i + 1, rfl, by omega, hE10.trans hE12⟩, by omega⟩
  · refine (started_spec (hK.ext (hE0.trans hE5))).mono ?_
    rintro _ w13 ⟨hE13, rfl⟩
    exact ⟨_, rfl, rfl, (hE0.trans hE5).trans hE13⟩
end
end N6
end Go.Proofs.YteppichfkeknbaaDoor
