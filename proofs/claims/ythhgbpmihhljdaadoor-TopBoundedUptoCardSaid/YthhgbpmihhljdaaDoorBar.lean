/- Chapter 6, writing: Check and Serialise, both programs. -/
import Derived.Test.YthhgbpmihhljdaaDoorBaq
import Derived.Test.YthhgbpmihhljdaaDoorBao
import Derived.Test.YthhgbpmihhljdaaDoorBap
import Derived.Test.YthhgbpmihhljdaaDoorBal
import Derived.Test.YthhgbpmihhljdaaDoorBam
namespace Go.Eng
open Go Go.RowKit
section
variable {w0 w : World} {Γ : List Fct}
theorem Sep.fresh {g t : Nat} {cs : List Value} (H : Sep Γ w) (j i : Nat) (hne : j ≠ i) (hj : Γ[j]? = some (Fct.rest w0 None)) (hi : Γ[i]? = some (Fct.blk g t cs)) : w0.heap.size ≤ g :=
  Nat.le_of_not_lt fun hlt => H.apart j i _ _ hne hj hi g ⟨hlt, id⟩ rfl
/-- A block of the call's own as a row. -/
theorem Sep.blkOwn {g e b n c : Nat} {cs : List Value} (H : Sep Γ w) (i : Nat) (hi : Γ[i]? = some (Fct.blk g e cs)) (hb : b ≤ g) (hc : cs.length = c) (hn : n ≤ c) (hm : c ≤ maxLen) : Sep (Γ.set i (Fct.own b e 1 (.slice (some ⟨g, 0, none⟩) n c) n (cs.take n))) w :=
  H.weaken i hi (own_of_blk (H.blk i hi) hb hc hn hm) fun k hk => by
    have hk : (Value.slice (some ⟨g, 0, none⟩) n c).ownBlock = some k := hk
    simp [Value.ownBlock] at hk
    exact hk.symm
end
end Go.Eng
namespace Go.Proofs.YthhgbpmihhljdaaDoor
namespace N6
open Go.Eng Go.RowKit
section
variable {w : World} {Γ : List Fct} {b n c m : Nat} {A : Option Addr} {xs : List Int}
section
variable {h : Ip4V} {os : List OptR} {data : List Int}
theorem ip4_src {g : Nat} {w' : World} (hb : Blk w' g 35 h.cells) : CellsAt w' ⟨g, 7, none⟩ 0 h.src.cells := ⟨hb.cell 7, hb.cell 8, hb.cell 9, hb.cell 10, hb.cell 11, hb.cell 12, hb.cell 13, hb.cell 14, hb.cell 15, hb.cell 16, hb.cell 17, hb.cell 18, hb.cell 19, hb.cell 20, hb.cell 21, hb.cell 22, hb.cell 23, trivial⟩
theorem ip4_dst {g : Nat} {w' : World} (hb : Blk w' g 35 h.cells) : CellsAt w' ⟨g, 24, none⟩ 0 h.dst.cells := ⟨hb.cell 24, hb.cell 25, hb.cell 26, hb.cell 27, hb.cell 28, hb.cell 29, hb.cell 30, hb.cell 31, hb.cell 32, hb.cell 33, hb.cell 34, hb.cell 35, hb.cell 36, hb.cell 37, hb.cell 38, hb.cell 39, hb.cell 40, trivial⟩
theorem bad4_iff : bad4 (h.d os data) ↔ (h.tos < 0 ∨ 255 < h.tos ∨ h.id < 0 ∨ 65535 < h.id ∨ h.off < 0 ∨ 65528 < h.off ∨ h.off % 8 ≠ 0 ∨ h.ttl < 0 ∨ 255 < h.ttl ∨ h.proto < 0 ∨ 255 < h.proto ∨ ¬ four4 h.src ∨ ¬ four4 h.dst) := Iff.rfl
set_option maxHeartbeats 2000000 in
theorem check4_spec (hA : Ip4At w h os data) : Calls Tryd.prog 11 #[h.val] w fun e w' => Ext w w' ∧ e = .returned (.int .i64 (check4S (h.d os data))) := by
  refine ip4_Check_of h w _ ?_
  unfold ip4_Check_VC
  have hD := hA.data
  have hdl := hD.len
  have hds := hD.small
  have fb := bad4_iff (h := h) (os := os) (data := data)
  obtain ⟨d, hd⟩ : ∃ d, h.d os data = d := ⟨_, rfl⟩
  have e_opts : d.opts = os.map OptR.d := by rw [← hd]; rfl
  have e_data : d.data = data := by rw [← hd]; rfl
  have e_mf : d.mf = h.mf := by rw [← hd]; rfl
  have e_off : d.off = h.off := by rw [← hd]; rfl
  rw [hd] at fb ⊢
  have bad : bad4 d → ∀ {w'}, Ext w w' → (Ext w w' ∧ Ending.returned (.int .i64 68) = .returned (.int .i64 (check4S d))) := fun hb w' hE => ⟨hE, by unfold check4S; rw [if_pos hb]⟩
  refine NewVC.sep (Sep.start0 w) fun g1 w1 H => ⟨_, H.cell 1 rfl 0 rfl, ?_⟩
  refine out4_spec.mono ?_
  rintro _ _ ⟨rfl, rfl⟩
  refine ⟨_, rfl, Br.dec (fun h1 => bad (fb.2 (by omega)) (H.restOf 0 rfl)) fun h1 => ⟨_, H.cell 1 rfl 1 rfl, ?_⟩⟩
  refine out4_spec.mono ?_
  rintro _ _ ⟨rfl, rfl⟩
  refine ⟨_, rfl, Br.dec (fun h2 => bad (fb.2 (by omega)) (H.restOf 0 rfl)) fun h2 => ⟨_, H.cell 1 rfl 4 rfl, ?_⟩⟩
  refine out4_spec.mono ?_
  rintro _ _ ⟨rfl, rfl⟩
  refine ⟨_, rfl, Br.dec (fun h3 => bad (fb.2 (by omega)) (H.restOf 0 rfl)) fun h3 => ⟨_, H.cell 1 rfl 4 rfl, ?_⟩⟩
  rw [Int.tmod_eq_emod_of_nonneg (by omega)]
  refine Br.dec (fun h4 => bad (fb.2 (by omega)) (H.restOf 0 rfl)) fun h4 => ⟨_, H.cell 1 rfl 5 rfl, ?_⟩
  refine out4_spec.mono ?_
  rintro _ _ ⟨rfl, rfl⟩
  refine ⟨_, rfl, Br.dec (fun h5 => bad (fb.2 (by omega)) (H.restOf 0 rfl)) fun h5 => ⟨_, H.cell 1 rfl 6 rfl, ?_⟩⟩
  refine out4_spec.mono ?_
  rintro _ _ ⟨rfl, rfl⟩
  refine ⟨_, rfl, Br.dec (fun h6 => bad (fb.2 (by omega)) (H.restOf 0 rfl)) fun h6 => IPV.of h.src ⟨ip4_src (H.blk 1 rfl), ?_⟩⟩
  refine four4_spec.mono ?_
  rintro _ w7 ⟨hE7, rfl⟩
  have H := H.ext hE7
  refine ⟨_, rfl, ?_⟩
  by_cases h7 : four4 h.src
  case neg => rw [decide_eq_false h7]; exact Br.t rfl (bad (fb.2 (by simp [h7])) (H.restOf 0 rfl))
  rw [decide_eq_true h7]
  refine Br.f rfl (IPV.of h.dst ⟨ip4_dst (H.blk 1 rfl), ?_⟩)
  refine four4_spec.mono ?_
  rintro _ w8 ⟨hE8, rfl⟩
  have H := H.ext hE8
  refine ⟨_, rfl, ?_⟩
  by_cases h8 : four4 h.dst
  case neg => rw [decide_eq_false h8]; exact Br.t rfl (bad (fb.2 (by simp [h8])) (H.restOf 0 rfl))
  rw [decide_eq_true h8]
  have hok : ¬ bad4 d := fun x => by have := fb.1 x; simp only [h7, h8, not_true, or_false] at this; omega
  refine Br.f rfl ⟨_, _, _, H.cell 1 rfl 41 rfl, ?_⟩
  refine (putOpts4_spec (hA.opts.ext (H.restOf 0 rfl))).mono ?_
  rintro _ w9 ⟨PA, pc, rfl, H9⟩
  have H := H.made H9
  rw [← e_opts] at H ⊢
  have hpl := putOpts4_len d.opts
  refine ⟨_, _, _, _, rfl, Br.dec (fun hne => ⟨H.restOf 0 rfl, by unfold check4S; rw [if_neg hok, if_pos hne]⟩) fun heq => ⟨_, _, _, H.cell 1 rfl 42 rfl, ?_⟩⟩
  rw [w64 (n := 20 + (((putOpts4 d.opts).1.length : Nat) : Int)) (by omega) (by omega), w64 (by omega) (by omega)]
  refine Br.dec (fun hbig => ⟨H.restOf 0 rfl, by unfold check4S; rw [if_neg hok, if_neg heq, if_pos (by rw [e_data]; omega)]⟩) fun hsm => ⟨_, H.cell 1 rfl 3 rfl, _, H.cell 1 rfl 4 rfl, _, _, _, H.cell 1 rfl 42 rfl, ?_⟩
  refine (frag4_spec (by omega) hds).mono ?_
  rintro _ _ ⟨rfl, rfl⟩
  have hck : check4S d = if frag4 h.mf h.off h.data.n then 66 else 0 := by
    unfold check4S
    rw [if_neg hok, if_neg heq, if_neg (show ¬ (65535 < 20 + (putOpts4 d.opts).1.length + d.data.length) by rw [e_data]; omega), e_mf, e_off, e_data, hdl]
  rw [hck]
  exact ⟨_, rfl, H.restOf 0 rfl, rfl⟩
end
end
end N6
end Go.Proofs.YthhgbpmihhljdaaDoor
/- Chapter 13, the program's small functions: copies of bytes, of options, of headers; how many are kept; how long what is put is. -/
namespace Go.Proofs.YthhgbpmihhljdaaDoor
namespace N6
open Go.Eng Go.RowKit
theorem tO : TypeIs Tryd.prog 106 (.agg #[.int .i64 0, .slice none 0 0]) 2 32 := .of (by kernel_rfl)
theorem tE : TypeIs Tryd.prog 115 (.agg #[.int .i64 0, .slice none 0 0, .slice none 0 0]) 3 56 := .of (by kernel_rfl)
section
variable {w : World} {Γ : List Fct}
/-- What is written so: bytes of the call's own. -/
theorem clone_spec {s : Sl} {l : List Int} (h : BytesAt w s l) : Calls Tryd.prog 34 #[s.val] w fun e w' => ∃ s' : Sl, e = .returned s'.val ∧ BFine s' l ∧ s'.n = s.n ∧ Sep [Fct.rest w None, rowB w.heap.size s' l] w' := by
  refine slices_Clone_of s.A s.n s.k w _ ?_
  unfold slices_Clone_VC
  have hl := h.len
  have hs := h.small
  cases hA : s.A with
  | none =>
    refine Br.t rfl ⟨⟨none, 0, 0⟩, rfl, ?_⟩
    have h0 : l = [] := by
      cases l with
      | nil => rfl
      | cons x r => obtain ⟨a, ha, _⟩ := h.cells 0 _ rfl; rw [hA] at ha; cases ha
    subst h0
    refine ⟨⟨Nat.zero_le _, h.bts⟩, by simpa using hl, (Sep.start0 w).nil _ _ _⟩
  | some a =>
    refine Br.f rfl (NewVC.sep (Sep.start0 w) fun g1 w1 H => ?_)
    have hg := H.fresh 0 1 (by decide) rfl rfl
    have H := H.blkOwn 1 rfl (b := w.heap.size) (n := 0) (c := 0) hg rfl (Nat.le_refl _) (by decide)
    have hz := (H.restOf 0 rfl).size
    have hc := h.cells.ext (H.restOf 0 rfl)
    rw [hA] at hc
    refine appB (m := s.n) (xs := []) (ys := l) H 1 rfl hc hl (by omega) (by omega) fun A2 c2 w2 H hc2 => ?_
    rw [Nat.zero_add] at H ⊢
    exact ⟨⟨A2, s.n, c2⟩, rfl, ⟨hs, h.bts⟩, rfl, H⟩
theorem appO (H : Sep Γ w) (i : Nat) {b n c : Nat} {A A' : Option Addr} {xs : List Value} {o : OptV} {c' : Nat} (hi : Γ[i]? = some (Fct.own b 106 2 (.slice A n c) n xs)) (hs : Cells w A' o.cells) (hn : n ≤ 1000000000) (hb : b ≤ w.heap.size)
    {F : Option Addr → Nat → Nat → World → Prop} (h : ∀ A2 c2 w', Sep (Γ.set i (Fct.own b 106 2 (.slice A2 (n + 1) c2) (n + 1) (xs ++ o.cells))) w' → n + 1 ≤ c2 → F A2 (n + 1) c2 w') :
    AppVC Tryd.prog #[33, 33] 33 (.slice A n c) (.slice A' 1 c') w F :=
  AppVC.sep H i Tryd.underlying33 tO rfl (by decide) hi hs rfl o.one (by omega) (by decide) hb h
end
end N6
end Go.Proofs.YthhgbpmihhljdaaDoor
/- Chapter 13, the program's: copies of headers; how many are kept; PutChain, Size, Check, how long options are. -/
namespace Go.Eng
end Go.Eng
namespace Go.Proofs.YthhgbpmihhljdaaDoor
namespace N6
open Go.Eng Go.RowKit
section
variable {w : World} {Γ : List Fct}
theorem appE (H : Sep Γ w) (i : Nat) {b n c : Nat} {A A' : Option Addr} {xs : List Value} {o : ExtV} {c' : Nat} (hi : Γ[i]? = some (Fct.own b 115 3 (.slice A n c) n xs)) (hs : Cells w A' o.cells) (hn : n ≤ 1000000000) (hb : b ≤ w.heap.size)
    {F : Option Addr → Nat → Nat → World → Prop} (h : ∀ A2 c2 w', Sep (Γ.set i (Fct.own b 115 3 (.slice A2 (n + 1) c2) (n + 1) (xs ++ o.cells))) w' → n + 1 ≤ c2 → F A2 (n + 1) c2 w') :
    AppVC Tryd.prog #[39, 39] 39 (.slice A n c) (.slice A' 1 c') w F :=
  AppVC.sep H i Tryd.underlying39 tE rfl (by decide) hi hs rfl o.one (by omega) (by decide) hb h
theorem check6_spec {h : Ip6V} {es : List ExtR} {data : List Int} (hA : Ip6At w h es data) (hK : Kn w) : Calls Tryd.prog 19 #[h.val] w fun e w' => Ext w w' ∧ e = .returned (.int .i64 (ser6S (h.d es data)).2) := by
  refine ip6_Check_of h w _ ?_
  unfold ip6_Check_VC
  refine NewVC.sep (Sep.start0 w) fun g1 w1 H => Ip6V.of h ⟨H.at 1 rfl, ?_⟩
  refine (made_spec (hA.ext (H.restOf 0 rfl)) (hK.ext (H.restOf 0 rfl))).mono ?_
  rintro _ w2 ⟨A, c, rfl, H2⟩
  exact ⟨_, _, _, _, rfl, (H.restOf 0 rfl).trans (H2.restOf 0 rfl), rfl⟩
end
end N6
end Go.Proofs.YthhgbpmihhljdaaDoor
/- Chapter 7 by value: what is read may be, and is written in as many bytes; a chain that was put is read as it was; one hop. -/
namespace Go.Eng
open Go Go.RowKit
end Go.Eng
/- Chapter 13 by value: how the pieces lie one behind the other. -/
namespace Go.Eng
open Go Go.RowKit
section
variable {a b mtu n : Nat}
end
end Go.Eng
/- Chapter 13 by value: what each piece of version 4 is worth. -/
namespace Go.Eng
open Go Go.RowKit
/-- Parts behind heads of a bytes (the first) and b bytes (the others), as long as can be. -/
def Fit (a b mtu n : Nat) : Nat → List (Nat × Nat) → Prop
  | p, [] => p = n
  | p, x :: l => x.1 = p ∧ p % 8 = 0 ∧ (0 < p → p < n) ∧ p + x.2 ≤ n ∧ x.2 ≤ room a b mtu p ∧ (l = [] → p + x.2 = n) ∧ (l ≠ [] → 0 < x.2 ∧ x.2 % 8 = 0 ∧ p + x.2 < n ∧ room a b mtu p < x.2 + 8) ∧ Fit a b mtu n (p + x.2) l
section
variable {a b mtu n : Nat}
theorem Fit.mem : ∀ {l : List (Nat × Nat)} {p i : Nat} {x : Nat × Nat}, Fit a b mtu n p l → l[i]? = some x →
    x.1 % 8 = 0 ∧ (0 < x.1 → x.1 < n) ∧ x.1 + x.2 ≤ n ∧ x.2 ≤ room a b mtu x.1 ∧ (i + 1 = l.length → x.1 + x.2 = n) ∧ (i + 1 < l.length → 0 < x.2 ∧ x.2 % 8 = 0 ∧ x.1 + x.2 < n ∧ room a b mtu x.1 < x.2 + 8) ∧ p ≤ x.1 ∧ (0 < i → p < x.1)
  | [], _, _, _, _, h => by simp at h
  | y :: l, p, 0, x, hf, h => by
    simp at h; subst h
    obtain ⟨h1, h2, h3, h4, h5, h6, h7, _⟩ := hf
    subst h1
    exact ⟨h2, h3, h4, h5, fun hl => h6 (List.eq_nil_of_length_eq_zero (by rw [List.length_cons] at hl; omega)), fun hl => h7 (fun e => by subst e; simp at hl), Nat.le_refl _, fun h => by omega⟩
  | y :: l, p, i + 1, x, hf, h => by
    obtain ⟨h1, h2, h3, h4, h5, h6, h7, h8⟩ := hf
    have h : l[i]? = some x := by simpa using h
    obtain ⟨k1, k2, k3, k4, k5, k6, k7, k8⟩ := Fit.mem h8 h
    have hne : l ≠ [] := fun e => by subst e; simp at h
    have := h7 hne
    exact ⟨k1, k2, k3, k4, fun hl => k5 (by simpa using hl), fun hl => k6 (by simpa using hl), by omega, fun _ => by omega⟩
end
end Go.Eng
