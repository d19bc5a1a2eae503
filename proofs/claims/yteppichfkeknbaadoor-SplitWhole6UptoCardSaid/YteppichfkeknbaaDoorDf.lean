/- SplitMay4: each piece may be, is as long as can be, and stays when it is cut again. -/
import Derived.Test.YteppichfkeknbaaDoorBn
import Derived.Test.YteppichfkeknbaaDoorBh
import Derived.Test.YteppichfkeknbaaDoorBk
namespace Go.Proofs.YteppichfkeknbaaDoor
namespace N6
open Go.Eng Go.RowKit
section
variable {w : World}
theorem one_of {α β : Type} {f : α → β} {l : List α} {x : β} (h : l.map f = [x]) : ∃ a, l = [a] ∧ f a = x := by
  match l, h with
  | [a], h => simp at h; exact ⟨a, rfl, h⟩
set_option maxHeartbeats 1000000 in
theorem may4_law {h : Ip4V} {os : List OptR} {data : List Int} {mtu : Int} (hA : Ip4At w h os data) (hW : Wd w) (hK : Kn w) : Calls Tryd.prog 10 #[h.val, .int .i64 mtu] w fun e w' => e = .returned (.bool true) ∧ Ext w w' := by
  refine weirlaw13_SplitMay4_of h mtu w _ ?_
  unfold weirlaw13_SplitMay4_VC
  refine NewVC.sep (Sep.start0 w) fun g1 w1 H => Ip4V.of h ⟨H.at 1 rfl, ?_⟩
  refine (split4_spec (mtu := mtu) (hA.ext (H.restOf 0 rfl))).mono ?_
  intro e w2 hc
  obtain ⟨s, rs, rfl, hrs, hat, hE2⟩ := hc.at
  have H := H.ext hE2
  have hE0 := H.restOf 0 rfl
  refine ⟨_, _, _, _, rfl, ?_⟩
  refine num_spec.mono ?_
  rintro _ w3 ⟨hw3, rfl⟩
  subst w3
  have hsn := hat.len
  have hsm := hat.small
  refine ⟨_, rfl, Br.dec (fun hne => ?_) fun heq => ?_⟩
  · refine (started_spec (hK.ext hE0)).mono ?_
    rintro _ w4 ⟨hE4, rfl⟩
    refine ⟨_, rfl, Br.t rfl ⟨?_, hE0.trans hE4⟩⟩
    have hnil : (split4S (h.d os data) mtu).1 = [] := by
      unfold split4S at hne ⊢
      split
      · rfl
      · rename_i h1
        rw [if_neg h1] at hne
        split
        · rfl
        · rename_i h2
          rw [if_neg h2] at hne
          split
          · rename_i h3; rw [if_pos h3] at hne; exact absurd rfl hne
          · rename_i h3
            rw [if_neg h3] at hne
            split
            · rfl
            · rename_i h4; rw [if_neg h4] at hne; exact absurd rfl hne
    rw [hnil] at hrs
    have : rs.length = 0 := by have := congrArg List.length hrs; simpa using this
    rw [decide_eq_true (by omega)]
  have heq : (split4S (h.d os data) mtu).2 = 0 := by omega
  obtain ⟨hchk, m1, m2, xs, hxs, hxn, hfit, _⟩ := split4_fit heq
  rw [hxs] at hrs
  have hlen : rs.length = xs.length := by have := congrArg List.length hrs; simpa using this
  have hxpos : 0 < xs.length := Nat.pos_of_ne_zero fun e => hxn (List.eq_nil_of_length_eq_zero e)
  obtain ⟨m, rfl⟩ : ∃ m : Nat, mtu = m := ⟨mtu.toNat, by omega⟩
  rw [Int.toNat_natCast] at hfit
  refine Br.no (by omega) ?_
  refine LoopVC.of (fun st w' => ∃ i : Nat, st = (i : Int) ∧ i ≤ xs.length ∧ Ext w2 w') (fun st _ => ((xs.length : Int) - st).toNat) ⟨0, rfl, Nat.zero_le _, Mod.refl _ _⟩ ?_
  rintro _ w5 ⟨i, rfl, hi', hE5⟩
  unfold weirlaw13_SplitMay4_L250
  refine Br.dec (fun hlt => ?_) fun hge => ?_
  · have hix : i < xs.length := by omega
    have hri : rs[i]? = some rs[i] := List.getElem?_eq_getElem (by omega)
    have hxi : xs[i]? = some xs[i] := List.getElem?_eq_getElem hix
    have hrd : rs[i].d = piece4 (h.d os data) xs[i] := by
      have := congrArg (·[i]?) hrs
      simpa [List.getElem?_map, hri, hxi] using this
    obtain ⟨p1, p2, p3, p4⟩ := piece4_ok hchk ⟨by omega, by omega⟩ hfit hxi
    obtain ⟨k1, k2, k3, k4, k5, k6, _, _⟩ := hfit.mem hxi
    have h4 := hd4_two (h.d os data)
    rw [← hrd] at p1 p2 p3 p4
    obtain ⟨s1, s2⟩ := ser4S_len p1
    have hrAt := hat.each rs[i] (List.getElem_mem _)
    have hrl : rs[i].v.data.n = xs[i].2 := by rw [← hrAt.data.len]; exact p2
    have hi1 : IntKind.i64.wrap ((i : Int) + 1) = ((i + 1 : Nat) : Int) := by rw [w64 (by omega) (by omega)]; omega
    refine (hat.ext hE5).idx hri fun a ha => Ip4V.of rs[i].v ⟨ha, ?_⟩
    refine (serialise4_spec (hrAt.ext hE5) (hW.ext (hE0.trans hE5))).mono ?_
    rintro _ w6 ⟨SA, sc, rfl, H6⟩
    rw [show rs[i].v.d rs[i].opts rs[i].data = rs[i].d from rfl, s1, s2, p2]
    have hE6 := hE5.trans (H6.restOf 0 rfl)
    refine ⟨_, _, _, _, rfl, ?_⟩
    refine num_spec.mono ?_
    rintro _ w7 ⟨hw7, rfl⟩
    subst w7
    refine ⟨_, rfl, Br.no (by decide) (Br.no (by omega) ?_)⟩
    refine (hat.ext hE6).idx hri fun a1 ha1 => Ip4V.of rs[i].v ⟨ha1, ?_⟩
    refine (fits4_spec (hrAt.ext hE6)).mono ?_
    rintro _ w8 ⟨hE8, rfl⟩
    have hE8 := hE6.trans hE8
    have hlenr : rs[i].data.length = xs[i].2 := p2
    have hfits : decide (check4S (rs[i].v.d rs[i].opts rs[i].data) = 0 ∧ ((hd4 (rs[i].v.d rs[i].opts rs[i].data) + rs[i].data.length : Nat) : Int) ≤ (m : Int)) = true := by
      rw [show rs[i].v.d rs[i].opts rs[i].data = rs[i].d from rfl, hlenr]
      exact decide_eq_true ⟨p1, by omega⟩
    rw [hfits]
    refine ⟨_, rfl, Br.f rfl ?_⟩
    refine JoinVC.of (fun _ w' => w' = w8) ?_ ?_
    · rw [hi1, w64 (n := ((hd4 rs[i].d + xs[i].2 : Nat) : Int) + 8) (by omega) (by omega)]
      refine Br.dec (fun hm => ?_) fun _ => rfl
      have k6 := k6 (by omega)
      have hroom : room (hd4 (h.d os data)) (hd4k (h.d os data)) m xs[i].1 = m - hd4 rs[i].d := by
        rw [p3]; unfold room; split <;> rfl
      rw [hroom] at k6
      refine Br.no (by omega) ?_
      refine (hat.ext hE8).idx hri fun a2 ha2 => ⟨_, _, _, cells_get ha2 42 rfl, ?_⟩
      rw [hrl, Int.tmod_eq_emod_of_nonneg (by omega)]
      refine Br.no (by omega) ?_
      refine (hat.ext hE8).idx hri fun a3 ha3 => ⟨_, _, _, cells_get ha3 42 rfl, ?_⟩
      rw [hrl]
      exact Br.no (by omega) rfl
    rintro _ w9 hw9
    subst w9
    unfold weirlaw13_SplitMay4_J16019
    refine (hat.ext hE8).idx hri fun a4 ha4 => Ip4V.of rs[i].v ⟨ha4, ?_⟩
    refine (split4_spec (mtu := (m : Int)) (hrAt.ext hE8)).mono ?_
    intro e w10 hc
    obtain ⟨s', rs', rfl, hrs', hat', hE10⟩ := hc.at
    have hE10 := hE8.trans hE10
    rw [show rs[i].v.d rs[i].opts rs[i].data = rs[i].d from rfl, split4_again p1 ⟨by omega, by omega⟩ (by rw [p2]; omega)] at hrs' ⊢
    obtain ⟨r', rfl, hr'⟩ := one_of hrs'
    have hs1 : s'.n = 1 := hat'.len.symm
    refine ⟨_, _, _, _, rfl, DrawVC.of (fun w' => Ip4sAt w' s rs ∧ Ip4sAt w' s' [r']) fun w11 hE11 _ => ⟨⟨hat.ext (hE10.trans hE11), hat'.ext hE11⟩, ?_⟩⟩
    have hS : Ip4sAt w11 s rs ∧ Ip4sAt w11 s' [r'] := ⟨hat.ext (hE10.trans hE11), hat'.ext hE11⟩
    have hE11 := hE10.trans hE11
    refine num_spec.mono ?_
    rintro _ w12 ⟨hw12, rfl⟩
    subst w12
    refine ⟨_, rfl, hS, Br.no (fun h => h rfl) (Br.no (by omega) ?_)⟩
    refine Ip4sAt.idxD (i := 0) (S := fun w' => Ip4sAt w' s rs ∧ Ip4sAt w' s' [r']) hS (fun w' h => h.2) (r := r') rfl fun a5 ha5 => Ip4V.of r'.v ⟨ha5, ?_⟩
    refine Ip4sAt.idxD (S := fun w' => Ip4sAt w' s rs ∧ Ip4sAt w' s' [r']) hS (fun w' h => h.1) hri fun a6 ha6 => Ip4V.of rs[i].v ⟨ha6, ?_⟩
    refine (same4_spec (hS.2.each r' (by simp)) (hS.1.each _ (List.getElem_mem _))).mono ?_
    rintro _ w13 ⟨b, rfl, hb, hE13⟩
    have hbt := hb.2 hr'
    subst hbt
    refine ⟨_, rfl, ⟨hS.1.ext hE13, hS.2.ext hE13⟩, Br.f rfl ?_⟩
    rw [hi1]
    exact ⟨⟨i + 1, rfl, by omega, hE11.trans hE13⟩, by omega⟩
  · refine (started_spec (hK.ext (hE0.trans hE5))).mono ?_
    rintro _ w14 ⟨hE14, rfl⟩
    exact ⟨_, rfl, rfl, (hE0.trans hE5).trans hE14⟩
end
end N6
end Go.Proofs.YteppichfkeknbaaDoor
/- SplitMay6: each piece may be, is as long as can be, and stays when it is cut again. -/
namespace Go.Proofs.YteppichfkeknbaaDoor
namespace N6
open Go.Eng Go.RowKit
section
variable {w : World}
theorem split6_nil {d : Ip6D} {mtu id : Int} (h : (split6S d mtu id).2 ≠ 0) : (split6S d mtu id).1 = [] := by
  unfold split6S at h ⊢
  split
  · rfl
  · rename_i h1
    rw [if_neg h1] at h
    split
    · rfl
    · rename_i h2
      rw [if_neg h2] at h
      split
      · rfl
      · rename_i h3
        rw [if_neg h3] at h
        split
        · rename_i h4; rw [if_pos h4] at h; exact absurd rfl h
        · rename_i h4
          rw [if_neg h4] at h
          split
          · rfl
          · rename_i h5
            rw [if_neg h5] at h
            split
            · rfl
            · rename_i h6; rw [if_neg h6] at h; exact absurd rfl h
set_option maxHeartbeats 1000000 in
theorem may6_law {h : Ip6V} {es : List ExtR} {data : List Int} {mtu id : Int} (hA : Ip6At w h es data) (hK : Kn w) : Calls Tryd.prog 8 #[h.val, .int .i64 mtu, .int .i64 id] w fun e w' => e = .returned (.bool true) ∧ Ext w w' := by
  refine weirlaw13_SplitMay6_of h mtu id w _ ?_
  unfold weirlaw13_SplitMay6_VC
  refine NewVC.sep (Sep.start0 w) fun g1 w1 H => Ip6V.of h ⟨H.at 1 rfl, ?_⟩
  refine (split6_spec (mtu := mtu) (id := id) (hA.ext (H.restOf 0 rfl)) (hK.ext (H.restOf 0 rfl))).mono ?_
  intro e w2 hc
  obtain ⟨s, rs, rfl, hrs, hat, hE2⟩ := hc.at
  have H := H.ext hE2
  have hE0 := H.restOf 0 rfl
  refine ⟨_, _, _, _, rfl, ?_⟩
  refine num_spec.mono ?_
  rintro _ w3 ⟨hw3, rfl⟩
  subst w3
  have hsn := hat.len
  have hsm := hat.small
  have hlen : rs.length = (split6S (h.d es data) mtu id).1.length := by have := congrArg List.length hrs; simpa using this
  refine ⟨_, rfl, Br.dec (fun hne => ?_) fun heq => ?_⟩
  · refine (started_spec (hK.ext hE0)).mono ?_
    rintro _ w4 ⟨hE4, rfl⟩
    refine ⟨_, rfl, Br.t rfl ⟨?_, hE0.trans hE4⟩⟩
    rw [split6_nil hne] at hlen
    rw [decide_eq_true (by rw [List.length_nil] at hlen; omega)]
  have heq : (split6S (h.d es data) mtu id).2 = 0 := by omega
  obtain ⟨hnn, hall⟩ := may6 heq
  obtain ⟨_, m1, m2, _, _, _⟩ := split6_fit heq
  have hpos : 0 < rs.length := by rw [hlen]; exact Nat.pos_of_ne_zero fun e => hnn (List.eq_nil_of_length_eq_zero e)
  refine Br.no (by omega) ?_
  refine LoopVC.of (fun st w' => ∃ i : Nat, st = (i : Int) ∧ i ≤ rs.length ∧ Ext w2 w') (fun st _ => ((rs.length : Int) - st).toNat) ⟨0, rfl, Nat.zero_le _, Mod.refl _ _⟩ ?_
  rintro _ w5 ⟨i, rfl, hi', hE5⟩
  unfold weirlaw13_SplitMay6_L250
  refine Br.dec (fun hlt => ?_) fun hge => ?_
  · have hri : rs[i]? = some rs[i] := List.getElem?_eq_getElem (by omega)
    have hq : (split6S (h.d es data) mtu id).1[i]? = some rs[i].d := by rw [← hrs, List.getElem?_map, hri]; rfl
    obtain ⟨p1, p2, p3, p4⟩ := hall i _ hq
    have hrAt := hat.each rs[i] (List.getElem_mem _)
    have hrl : rs[i].data.length = rs[i].v.data.n := hrAt.data.len
    have hdl : rs[i].d.data.length = rs[i].data.length := rfl
    have hsl := ser6S_len rs[i].d
    have hspos : (ser6S rs[i].d).1.length ≠ 0 := by
      rcases ser6S_cases rs[i].d with ⟨h0, _⟩ | ⟨_, _, _, _, _, e⟩
      · exact absurd p1 h0
      · rw [e, List.length_append]
        have : ∀ n, (head6 rs[i].d n).length = 8 := fun _ => rfl
        rw [this]; omega
    have hi1 : IntKind.i64.wrap ((i : Int) + 1) = ((i + 1 : Nat) : Int) := by rw [w64 (by omega) (by omega)]; omega
    refine (hat.ext hE5).idx hri fun a ha => Ip6V.of rs[i].v ⟨ha, ?_⟩
    refine (size6_spec (hrAt.ext hE5) (hK.ext (hE0.trans hE5))).mono ?_
    rintro _ w6 ⟨hE6, rfl⟩
    rw [show rs[i].v.d rs[i].exts rs[i].data = rs[i].d from rfl]
    have hE6 := hE5.trans hE6
    refine ⟨_, rfl, Br.no (by omega) (Br.no (by omega) ?_)⟩
    refine (hat.ext hE6).idx hri fun a1 ha1 => Ip6V.of rs[i].v ⟨ha1, ?_⟩
    refine (fits6_spec (mtu := mtu) (hrAt.ext hE6) (hK.ext (hE0.trans hE6))).mono ?_
    rintro _ w7 ⟨hE7, rfl⟩
    have hE7 := hE6.trans hE7
    have hfits : decide ((ser6S (rs[i].v.d rs[i].exts rs[i].data)).2 = 0 ∧ (((ser6S (rs[i].v.d rs[i].exts rs[i].data)).1.length : Nat) : Int) ≤ mtu) = true := decide_eq_true ⟨p1, p2⟩
    rw [hfits]
    refine ⟨_, rfl, Br.f rfl ?_⟩
    refine JoinVC.of (fun _ w' => w' = w7) ?_ ?_
    · rw [hi1, w64 (n := (((ser6S rs[i].d).1.length : Nat) : Int) + 8) (by omega) (by omega)]
      refine Br.dec (fun hm => ?_) fun _ => rfl
      obtain ⟨q1, q2, q3⟩ := p4 (by omega)
      rw [hdl, hrl] at q2 q3
      refine Br.no (by omega) ?_
      refine (hat.ext hE7).idx hri fun a2 ha2 => ⟨_, _, _, cells_get ha2 43 rfl, ?_⟩
      rw [Int.tmod_eq_emod_of_nonneg (by omega)]
      refine Br.no (by omega) ?_
      refine (hat.ext hE7).idx hri fun a3 ha3 => ⟨_, _, _, cells_get ha3 43 rfl, ?_⟩
      exact Br.no (by omega) rfl
    rintro _ w8 hw8
    subst w8
    unfold weirlaw13_SplitMay6_J16019
    refine (hat.ext hE7).idx hri fun a4 ha4 => Ip6V.of rs[i].v ⟨ha4, ?_⟩
    refine (split6_spec (mtu := mtu) (id := id) (hrAt.ext hE7) (hK.ext (hE0.trans hE7))).mono ?_
    intro e w9 hc
    obtain ⟨s', rs', rfl, hrs', hat', hE9⟩ := hc.at
    have hE9 := hE7.trans hE9
    rw [show rs[i].v.d rs[i].exts rs[i].data = rs[i].d from rfl, p3] at hrs' ⊢
    obtain ⟨r', rfl, hr'⟩ := one_of hrs'
    have hs1 : s'.n = 1 := hat'.len.symm
    refine ⟨_, _, _, _, rfl, DrawVC.of (fun w' => Ip6sAt w' s rs ∧ Ip6sAt w' s' [r']) fun w10 hE10 _ => ⟨⟨hat.ext (hE9.trans hE10), hat'.ext hE10⟩, ?_⟩⟩
    have hS : Ip6sAt w10 s rs ∧ Ip6sAt w10 s' [r'] := ⟨hat.ext (hE9.trans hE10), hat'.ext hE10⟩
    have hE10 := hE9.trans hE10
    refine num_spec.mono ?_
    rintro _ w11 ⟨hw11, rfl⟩
    subst w11
    refine ⟨_, rfl, hS, Br.no (fun h => h rfl) (Br.no (by omega) ?_)⟩
    refine Ip6sAt.idxD (i := 0) (S := fun w' => Ip6sAt w' s rs ∧ Ip6sAt w' s' [r']) hS (fun w' h => h.2) (r := r') rfl fun a5 ha5 => Ip6V.of r'.v ⟨ha5, ?_⟩
    refine Ip6sAt.idxD (S := fun w' => Ip6sAt w' s rs ∧ Ip6sAt w' s' [r']) hS (fun w' h => h.1) hri fun a6 ha6 => Ip6V.of rs[i].v ⟨ha6, ?_⟩
    refine (same6_spec (hS.2.each r' (by simp)) (hS.1.each _ (List.getElem_mem _))).mono ?_
    rintro _ w12 ⟨b, rfl, hb, hE12⟩
    have hbt := hb.2 hr'
    subst hbt
    refine ⟨_, rfl, ⟨hS.1.ext hE12, hS.2.ext hE12⟩, Br.f rfl ?_⟩
    rw [hi1]
    exact ⟨⟨i + 1, rfl, by omega, hE10.trans hE12⟩, by omega⟩
  · refine (started_spec (hK.ext (hE0.trans hE5))).mono ?_
    rintro _ w13 ⟨hE13, rfl⟩
    exact ⟨_, rfl, rfl, (hE0.trans hE5).trans hE13⟩
end
end N6
end Go.Proofs.YteppichfkeknbaaDoor
/- SplitTwice: cut at one MTU, and the pieces at another: the parts are the whole again. -/
namespace Go.Eng
open Go Go.RowKit
theorem split4_err {d : Ip4D} {mtu : Int} (hc : check4S d = 0) (h : (split4S d mtu).2 ≠ 0) : mtu < 68 ∨ 65535 < mtu ∨ d.df = true := by
  unfold split4S at h
  rw [if_neg (by omega)] at h
  split at h
  · omega
  · split at h
    · exact absurd rfl h
    · split at h
      · exact .inr (.inr (by assumption))
      · exact absurd rfl h
theorem Chained.at : ∀ {l : List (Nat × Nat)} {n p i : Nat} {x : Nat × Nat}, Chained n p l → l[i]? = some x → x.1 + x.2 ≤ n ∧ (i + 1 < l.length → x.1 + x.2 < n) ∧ (i + 1 = l.length → x.1 + x.2 = n)
  | [], _, _, _, _, _, h => by simp at h
  | y :: l, n, p, 0, x, hc, h => by
    simp at h; subst h
    obtain ⟨h1, h2, h3, h4⟩ := hc
    refine ⟨by omega, fun hl => ?_, fun hl => ?_⟩
    · have := (h3 (fun e => by subst e; simp at hl)).2; omega
    · have : l = [] := List.eq_nil_of_length_eq_zero (by rw [List.length_cons] at hl; omega)
      subst this
      have h4 : p + y.2 = n := h4
      omega
  | y :: l, n, p, i + 1, x, hc, h => by
    obtain ⟨k1, k2, k3⟩ := Chained.at hc.2.2.2 (by simpa using h : l[i]? = some x)
    exact ⟨k1, fun hl => k2 (by simpa using hl), fun hl => k3 (by simpa using hl)⟩
end Go.Eng
namespace Go.Proofs.YteppichfkeknbaaDoor
namespace N6
open Go.Eng Go.RowKit
section
variable {w : World}
def endN (P : Prop) [Decidable P] : Int := if P then 1 else 0
set_option maxHeartbeats 2000000 in
theorem twice_inner {w2 w7 : World} {h : Ip4V} {os : List OptR} {data : List Int} {g1 i p xl : Nat} {xs : List (Nat × Nat)} {ys : List (Nat × Nat)} {s : Sl} {rs : List Ip4R} {R : Ending → World → Prop} {K : Int × Int × Int → World → Prop}
    (hA : Ip4At w2 h os data) (hb1 : Blk w2 g1 28 h.cells) (hoff : 0 ≤ h.off ∧ h.off ≤ 65528) (q : Ip4D) (hqo : q.off = h.off + p) (hqd : q.data = (data.drop p).take xl) (hpx : p + xl ≤ data.length)
    (hqm : q.mf = (decide (p + xl < data.length) || h.mf)) (hlast : i + 1 = xs.length → p + xl = data.length) (hmore : i + 1 < xs.length → p + xl < data.length) (hix : i < xs.length)
    (hys : rs.map Ip4R.d = ys.map (piece4 q)) (hyn : ys ≠ []) (hch : Chained xl 0 ys) (hat : Ip4sAt w7 s rs) (hE7 : Ext w2 w7)
    (hK : ∀ w', Ext w2 w' → K (h.off + (p + xl : Nat), endN (i + 1 = xs.length ∧ h.mf = false), IntKind.i64.wrap ((i : Int) + 1)) w') :
    LoopVC (S := Int × Int × Int) (fun s_ w9 K1 => weirlaw13_SplitTwice_L129614 R g1 (i : Int) K s.A s.n s_.1 s_.2.1 s_.2.2 w9 K1) (h.off + p, 0, 0) w7 := by
  have hdl := hA.data.len
  have hds := hA.data.small
  have hlen : rs.length = ys.length := by have := congrArg List.length hys; simpa using this
  have hsn := hat.len
  have hsm := hat.small
  have hypos : 0 < ys.length := Nat.pos_of_ne_zero fun e => hyn (List.eq_nil_of_length_eq_zero e)
  refine LoopVC.of (fun st w' => ∃ (k r : Nat), st.2.2 = k ∧ k ≤ ys.length ∧ r ≤ xl ∧ Chained xl r (ys.drop k) ∧ st.1 = h.off + (p + r : Nat) ∧ st.2.1 = endN (k = ys.length ∧ i + 1 = xs.length ∧ h.mf = false) ∧ Ext w7 w') (fun st _ => ((ys.length : Int) - st.2.2).toNat)
    ⟨0, 0, rfl, Nat.zero_le _, Nat.zero_le _, hch, by simp, by unfold endN; rw [if_neg (by omega)], Mod.refl _ _⟩ ?_
  rintro ⟨_, _, _⟩ w9 ⟨k, r, rfl, hk, hr, hcr, rfl, rfl, hE9⟩
  show weirlaw13_SplitTwice_L129614 R g1 (i : Int) K s.A s.n (h.off + (p + r : Nat)) (endN (k = ys.length ∧ i + 1 = xs.length ∧ h.mf = false)) (k : Int) w9 _
  unfold weirlaw13_SplitTwice_L129614
  refine Br.dec (fun hlt => ?_) fun hge => ?_
  · have hky : k < ys.length := by omega
    have hri : rs[k]? = some rs[k] := List.getElem?_eq_getElem (by omega)
    have hyi : ys[k]? = some ys[k] := List.getElem?_eq_getElem hky
    have hrd : rs[k].d = piece4 q ys[k] := by
      have := congrArg (·[k]?) hys
      simpa [List.getElem?_map, hri, hyi] using this
    obtain ⟨a1, a2, a3⟩ := hch.at hyi
    rw [List.drop_eq_getElem_cons hky] at hcr
    obtain ⟨k1, k2, k3, k4⟩ := hcr
    have hroff : rs[k].v.off = h.off + (p + r : Nat) := by
      have := congrArg Ip4D.off hrd
      rw [show rs[k].d.off = rs[k].v.off from rfl] at this
      rw [this]; show q.off + (ys[k].1 : Int) = _; rw [hqo, k1]; omega
    have hqlen : q.data.length = xl := by rw [hqd, List.length_take, List.length_drop]; omega
    have hrdata : rs[k].data = (data.drop (p + r)).take ys[k].2 := by
      have := congrArg Ip4D.data hrd
      rw [show rs[k].d.data = rs[k].data from rfl] at this
      rw [this]; show (q.data.drop ys[k].1).take ys[k].2 = _
      rw [hqd, k1, List.drop_take, List.take_take, List.drop_drop, Nat.min_eq_left (by omega)]
    have hrAt := hat.each rs[k] (List.getElem_mem _)
    have hrl : rs[k].v.data.n = ys[k].2 := by
      rw [← hrAt.data.len, hrdata, List.length_take, List.length_drop]; omega
    have hrmf : rs[k].v.mf = (decide (ys[k].1 + ys[k].2 < xl) || (decide (p + xl < data.length) || h.mf)) := by
      have := congrArg Ip4D.mf hrd
      rw [show rs[k].d.mf = rs[k].v.mf from rfl] at this
      rw [this, ← hqm, ← hqlen]; rfl
    have hS : ∀ {w'}, Ext w9 w' → Ip4sAt w' s rs ∧ Blk w' g1 28 h.cells := fun hE => ⟨hat.ext (hE9.trans hE), hb1.ext (hE7.trans (hE9.trans hE))⟩
    have c1 : IntKind.i64.wrap (h.off + ((p + r : Nat) : Int) - h.off) = ((p + r : Nat) : Int) := by rw [w64 (by omega) (by omega)]; omega
    have c2 : IntKind.i64.wrap (((p + r : Nat) : Int) + (ys[k].2 : Int)) = ((p + r + ys[k].2 : Nat) : Int) := by rw [w64 (by omega) (by omega)]; omega
    have c3 : IntKind.i64.wrap (h.off + ((p + r : Nat) : Int) + (ys[k].2 : Int)) = h.off + ((p + (r + ys[k].2) : Nat) : Int) := by rw [w64 (by omega) (by omega)]; omega
    have c4 : IntKind.i64.wrap ((k : Int) + 1) = ((k + 1 : Nat) : Int) := by rw [w64 (by omega) (by omega)]; omega
    have c5 : IntKind.i64.wrap (h.off + ((p + (r + ys[k].2) : Nat) : Int) - h.off) = ((p + (r + ys[k].2) : Nat) : Int) := by rw [w64 (by omega) (by omega)]; omega
    refine DrawVC.of (fun w' => Ip4sAt w' s rs ∧ Blk w' g1 28 h.cells) fun w10 hE10 _ => ⟨hS hE10, ?_⟩
    refine Ip4sAt.idxD (S := fun w' => Ip4sAt w' s rs ∧ Blk w' g1 28 h.cells) (hS hE10) (fun w' h => h.1) hri fun a ha => ⟨_, fun w' h => four_off (ha w' h), ?_⟩
    rw [hroff]
    refine Br.no (fun h => h rfl) ⟨_, fun w' h => h.2.cell 4, ?_⟩
    refine Ip4sAt.idxD (S := fun w' => Ip4sAt w' s rs ∧ Blk w' g1 28 h.cells) (hS hE10) (fun w' h => h.1) hri fun a ha => ⟨_, _, _, fun w' h => cells_get (ha w' h) 42 rfl, _, _, _, fun w' h => h.2.cell 42, ?_⟩
    rw [c1, hrl, c2]
    refine Br.no (by omega) ?_
    refine DrawVC.of (fun w' => Ip4sAt w' s rs ∧ Blk w' g1 28 h.cells) fun w11 hE11 _ => ⟨hS (hE10.trans hE11), ?_⟩
    have hE11 := hE10.trans hE11
    refine Ip4sAt.idxD (S := fun w' => Ip4sAt w' s rs ∧ Blk w' g1 28 h.cells) (hS hE11) (fun w' h => h.1) hri fun a ha => ⟨_, _, _, fun w' h => cells_get (ha w' h) 42 rfl, _, _, _, fun w' h => h.2.cell 42, _, fun w' h => h.2.cell 4, _, fun w' h => h.2.cell 4, ?_⟩
    refine Ip4sAt.idxD (S := fun w' => Ip4sAt w' s rs ∧ Blk w' g1 28 h.cells) (hS hE11) (fun w' h => h.1) hri fun a ha => ⟨_, _, _, fun w' h => cells_get (ha w' h) 42 rfl, ?_⟩
    rw [c1, hrl, c2]
    have hE011 := hE7.trans (hE9.trans hE11)
    refine (hA.data.ext hE011).part (p := p + r) (k := ys[k].2) (by omega) rfl rfl fun s' hs' => ?_
    have hrA11 : BytesAt w11 rs[k].v.data rs[k].data := (hrAt.ext (hE9.trans hE11)).data
    have hcall := alike7_spec (s := rs[k].v.data) (t := s') hrA11 hs'
    rw [show rs[k].v.data.val = .slice rs[k].v.data.A ys[k].2 rs[k].v.data.k by unfold Sl.val; rw [hrl]] at hcall
    refine hcall.mono ?_
    rintro _ w12 ⟨hw12, rfl⟩
    subst w12
    rw [decide_eq_true hrdata]
    refine ⟨_, rfl, hS hE11, Br.f rfl ?_⟩
    refine (hS hE11).1.idx hri fun a ha => ⟨_, _, _, cells_get ha 42 rfl, ?_⟩
    refine (hS hE11).1.idx hri fun a ha => ⟨_, four_mf ha, ?_⟩
    rw [hrl, c3, c4, hrmf]
    have hE : Ext w7 w11 := hE9.trans hE11
    by_cases hend : k + 1 = ys.length ∧ i + 1 = xs.length ∧ h.mf = false
    · obtain ⟨q1, q2, q3⟩ := hend
      have b1 := a3 q1
      have b2 := hlast q2
      rw [decide_eq_false (show ¬ ys[k].1 + ys[k].2 < xl by omega), decide_eq_false (show ¬ p + xl < data.length by omega), q3]
      refine Br.t rfl ⟨_, (hS hE11).2.cell 4, _, _, _, (hS hE11).2.cell 42, ?_⟩
      rw [c5]
      refine Br.no (by omega) ⟨⟨k + 1, r + ys[k].2, rfl, by omega, by omega, k4, rfl, ?_, hE⟩, by simp only; omega⟩
      unfold endN
      rw [if_neg (by omega), if_pos ⟨q1, q2, rfl⟩]; rfl
    · have hmf : (decide (ys[k].1 + ys[k].2 < xl) || (decide (p + xl < data.length) || h.mf)) = true := by
        rcases Nat.lt_or_ge (k + 1) ys.length with hl | hl
        · rw [decide_eq_true (a2 hl)]; rfl
        · rcases Nat.lt_or_ge (i + 1) xs.length with hl2 | hl2
          · rw [decide_eq_true (hmore hl2)]; simp
          · have : h.mf = true := by
              cases hm : h.mf with
              | true => rfl
              | false => exact absurd ⟨by omega, by omega, hm⟩ hend
            rw [this]; simp
      rw [hmf]
      refine Br.f rfl ⟨⟨k + 1, r + ys[k].2, rfl, by omega, by omega, k4, rfl, ?_, hE⟩, by simp only; omega⟩
      unfold endN
      rw [if_neg (by omega), if_neg hend]
  · have hke : k = ys.length := by omega
    subst hke
    rw [List.drop_length] at hcr
    have hcr : r = xl := hcr
    subst hcr
    have e : endN (ys.length = ys.length ∧ i + 1 = xs.length ∧ h.mf = false) = endN (i + 1 = xs.length ∧ h.mf = false) := by
      unfold endN
      by_cases hq : i + 1 = xs.length ∧ h.mf = false
      · rw [if_pos ⟨rfl, hq⟩, if_pos hq]
      · rw [if_neg (fun x => hq x.2), if_neg hq]
    rw [e]
    exact hK w9 (hE7.trans hE9)
set_option maxHeartbeats 2000000 in
theorem twice_law {h : Ip4V} {os : List OptR} {data : List Int} {mtu less : Int} (hA : Ip4At w h os data) (hK : Kn w) : Calls Tryd.prog 4 #[h.val, .int .i64 mtu, .int .i64 less] w fun e w' => e = .returned (.bool true) ∧ Ext w w' := by
  refine weirlaw13_SplitTwice_of h mtu less w _ ?_
  unfold weirlaw13_SplitTwice_VC
  refine NewVC.sep (Sep.start0 w) fun g1 w1 H => Ip4V.of h ⟨H.at 1 rfl, ?_⟩
  refine (split4_spec (mtu := mtu) (hA.ext (H.restOf 0 rfl))).mono ?_
  intro e w2 hc
  obtain ⟨s, rs, rfl, hrs, hat, hE2⟩ := hc.at
  have H := H.ext hE2
  have hE0 := H.restOf 0 rfl
  refine ⟨_, _, _, _, rfl, ?_⟩
  refine num_spec.mono ?_
  rintro _ w3 ⟨hw3, rfl⟩
  subst w3
  have hsn := hat.len
  have hsm := hat.small
  refine ⟨_, rfl, Br.dec (fun hne => ?_) fun heq => ?_⟩
  · refine (started_spec (hK.ext hE0)).mono ?_
    rintro _ w4 ⟨hE4, rfl⟩
    exact ⟨_, rfl, rfl, hE0.trans hE4⟩
  have heq : (split4S (h.d os data) mtu).2 = 0 := Classical.not_not.1 heq
  obtain ⟨hchk, m1, m2, xs, hxs, hxn, hfit, _⟩ := split4_fit heq
  rw [hxs] at hrs
  have hlen : rs.length = xs.length := by have := congrArg List.length hrs; simpa using this
  have hxpos : 0 < xs.length := Nat.pos_of_ne_zero fun e => hxn (List.eq_nil_of_length_eq_zero e)
  obtain ⟨m, rfl⟩ : ∃ m : Nat, mtu = m := ⟨mtu.toNat, by omega⟩
  rw [Int.toNat_natCast] at hfit
  have hoff : 0 ≤ h.off ∧ h.off ≤ 65528 := by have := (check4S_ok hchk).1; rw [bad4_iff] at this; omega
  have hdl := hA.data.len
  have hds := hA.data.small
  have hA2 := hA.ext hE0
  have hb1 := H.blk 1 rfl
  have hed : (h.d os data).data = data := rfl
  rw [hed] at hfit
  refine ⟨_, hb1.cell 4, ?_⟩
  refine LoopVC.of (fun st w' => ∃ (i p : Nat), st.2.2 = i ∧ i ≤ xs.length ∧ Fit (hd4 (h.d os data)) (hd4k (h.d os data)) m data.length p (xs.drop i) ∧ st.1 = h.off + (p : Int) ∧ st.2.1 = endN (i = xs.length ∧ h.mf = false) ∧ Ext w2 w') (fun st _ => ((xs.length : Int) - st.2.2).toNat)
    ⟨0, 0, rfl, Nat.zero_le _, hfit, by simp, by unfold endN; rw [if_neg (by omega)], Mod.refl _ _⟩ ?_
  rintro ⟨_, _, _⟩ w5 ⟨i, p, rfl, hi', hfp, rfl, rfl, hE5⟩
  show weirlaw13_SplitTwice_L506 _ less g1 s.A s.n (h.off + (p : Int)) (endN (i = xs.length ∧ h.mf = false)) (i : Int) w5 _
  unfold weirlaw13_SplitTwice_L506
  refine Br.dec (fun hlt => ?_) fun hge => ?_
  · have hix : i < xs.length := by omega
    have hri : rs[i]? = some rs[i] := List.getElem?_eq_getElem (by omega)
    have hxi : xs[i]? = some xs[i] := List.getElem?_eq_getElem hix
    have hrd : rs[i].d = piece4 (h.d os data) xs[i] := by
      have := congrArg (·[i]?) hrs
      simpa [List.getElem?_map, hri, hxi] using this
    obtain ⟨p1, p2, p3, p4⟩ := piece4_ok hchk ⟨by omega, by omega⟩ hfit hxi
    obtain ⟨k1, k2, k3, k4, k5, k6, _, _⟩ := hfit.mem hxi
    rw [List.drop_eq_getElem_cons hix] at hfp
    have hxp := hfp.1
    have hnext := hfp.2.2.2.2.2.2.2
    rw [← hrd] at p1
    have hrAt := hat.each rs[i] (List.getElem_mem _)
    have hi1 : IntKind.i64.wrap ((i : Int) + 1) = ((i + 1 : Nat) : Int) := by rw [w64 (by omega) (by omega)]; omega
    refine (hat.ext hE5).idx hri fun a ha => Ip4V.of rs[i].v ⟨ha, ?_⟩
    refine (split4_spec (mtu := less) (hrAt.ext hE5)).mono ?_
    intro e w6 hc
    obtain ⟨s', rs', rfl, hrs', hat', hE6⟩ := hc.at
    rw [show rs[i].v.d rs[i].opts rs[i].data = rs[i].d from rfl] at hrs' ⊢
    have hE6 := hE5.trans hE6
    refine ⟨_, _, _, _, rfl, ?_⟩
    refine num_spec.mono ?_
    rintro _ w7 ⟨hw7, rfl⟩
    subst w7
    refine ⟨_, rfl, Br.dec (fun hne => ?_) fun heq2 => ?_⟩
    · refine (started_spec (hK.ext (hE0.trans hE6))).mono ?_
      rintro _ w8 ⟨hE8, rfl⟩
      have hEE := (hE0.trans hE6).trans hE8
      have herr := split4_err p1 hne
      refine ⟨_, rfl, Br.t rfl (Br.dec (fun _ => ⟨rfl, hEE⟩) fun n1 => Br.dec (fun _ => ⟨rfl, hEE⟩) fun n2 => ⟨_, (hb1.ext (hE6.trans hE8)).cell 2, ?_, hEE⟩)⟩
      have : h.df = true := by
        have hdf := congrArg Ip4D.df hrd
        rcases herr with h1 | h1 | h1
        · omega
        · omega
        · rw [hdf] at h1; exact h1
      rw [this]
    · have heq2 : (split4S rs[i].d less).2 = 0 := Classical.not_not.1 heq2
      obtain ⟨_, _, _, ys, hys, hyn, hych, _⟩ := split4_parts heq2
      rw [hys] at hrs'
      have hqd : rs[i].d.data = (data.drop p).take xs[i].2 := by rw [hrd, ← hxp]; rfl
      have hql : rs[i].d.data.length = xs[i].2 := by rw [hrd]; exact p2
      rw [hql] at hych
      have e0 : endN (i = xs.length ∧ h.mf = false) = 0 := by unfold endN; rw [if_neg (by omega)]
      rw [e0]
      refine twice_inner (xl := xs[i].2) (p := p) (xs := xs) hA2 hb1 hoff rs[i].d (by rw [hrd, ← hxp]; rfl) hqd (by omega) (by rw [hrd, ← hxp]; rfl) (fun hl => by have := k5 hl; omega) (fun hl => by have := (k6 hl).2.2.1; omega) hix hrs' hyn hych hat' hE6 fun w' hE' => ?_
      rw [hi1]
      exact ⟨⟨i + 1, p + xs[i].2, rfl, by omega, hnext, rfl, rfl, hE'⟩, by simp only; omega⟩
  · have hin : i = xs.length := by omega
    subst hin
    rw [List.drop_length] at hfp
    have hfp : p = data.length := hfp
    refine JoinVC.of (fun x w' => w' = w5 ∧ x = endN (h.mf = false)) ?_ ?_
    · refine ⟨_, (hb1.ext hE5).cell 3, ?_⟩
      cases hm : h.mf with
      | true => exact Br.t rfl ⟨rfl, rfl⟩
      | false => exact Br.f rfl ⟨rfl, rfl⟩
    rintro _ w13 ⟨hw13, rfl⟩
    subst w13
    unfold weirlaw13_SplitTwice_J255
    refine (started_spec (hK.ext (hE0.trans hE5))).mono ?_
    rintro _ w14 ⟨hE14, rfl⟩
    refine ⟨_, rfl, Br.t rfl ⟨_, (hb1.ext (hE5.trans hE14)).cell 4, _, _, _, (hb1.ext (hE5.trans hE14)).cell 42, ?_⟩⟩
    rw [show h.off + (p : Int) - h.off = (p : Int) by omega, w64 (by omega) (by omega)]
    refine Br.yes (by omega) ⟨?_, (hE0.trans hE5).trans hE14⟩
    have e : endN (xs.length = xs.length ∧ h.mf = false) = endN (h.mf = false) := by
      unfold endN
      by_cases hq : h.mf = false
      · rw [if_pos ⟨rfl, hq⟩, if_pos hq]
      · rw [if_neg (fun x => hq x.2), if_neg hq]
    rw [e, decide_eq_true rfl]
end
end N6
end Go.Proofs.YteppichfkeknbaaDoor
