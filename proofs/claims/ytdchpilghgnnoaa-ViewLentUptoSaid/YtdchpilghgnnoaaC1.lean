/- Contracts of package view's inner looks. -/
import Derived.Test.YtdchpilghgnnoaaV
import Derived.Test.YtdchpilghgnnoaaMem
import Derived.Test.YtdchpilghgnnoaaPlain
namespace Go.Proofs.Ytdchpilghgnnoaa
open Go.Eng
/-- What a look panics with. -/
def gapc : List PanicEntry := [{ v := .iface 127 (.agg #[]), recovered := false }]

theorem sized_spec (n : Int) (w : World) : Calls Try.prog 50 #[.int .i64 n] w fun e w' => w = w' ∧ e = .returned (.bool (decide (1 ≤ n ∧ n ≤ 8))) := by
  refine view_sized_of n w _ ?_
  unfold view_sized_VC
  refine Br.dec (fun h => ⟨rfl, ?_⟩) (fun h => ⟨rfl, ?_⟩)
  · simp [h]
  · simp [h]
theorem num_spec (x : Int) (w : World) : Calls Try.prog 19 #[.int .i64 x] w fun e w' => w = w' ∧ e = .returned (.int .i64 x) :=
  weirlaw1_num_of x w _ ⟨rfl, rfl⟩

theorem look_yes {A : Option Addr} {n c : Nat} {i : Int} {bs : List Int} {w : World} (hb : Cells w A (bs.map (.int .u8))) (hl : bs.length = n) (h0 : 0 ≤ i) (h1 : i < n) :
    Calls Try.prog 64 #[.slice A n c, .int .i64 i] w fun e w' => w = w' ∧ e = .returned (.int .u8 (bs.getD i.toNat 0)) := by
  refine view_look_of A n c i w _ ?_
  unfold view_look_VC
  refine Br.no (by omega) (Br.no (by omega) ?_)
  exact IdxVC.int hb (by omega) (by omega) hl fun a hc => ⟨_, hc, rfl, rfl⟩
theorem look_no {A : Option Addr} {n c : Nat} {i : Int} {w : World} (h : ¬ (0 ≤ i ∧ i < n)) :
    Calls Try.prog 64 #[.slice A n c, .int .i64 i] w fun e w' => w = w' ∧ e = .panicked gapc := by
  refine view_look_of A n c i w _ ?_
  unfold view_look_VC
  refine Br.dec (fun h1 => ⟨rfl, rfl⟩) (fun h1 => Br.dec (fun h2 => ⟨rfl, rfl⟩) (fun h2 => ?_))
  omega

theorem getD_drop (bs : List Int) (p k : Nat) : (bs.drop p).getD k 0 = bs.getD (p + k) 0 := by
  simp [List.getD_eq_getElem?_getD, List.getElem?_drop]
theorem take_succ_getD (l : List Int) (k : Nat) (h : k < l.length) : l.take (k + 1) = l.take k ++ [l.getD k 0] := by
  rw [List.take_succ_eq_append_getElem h]; simp [h]

theorem number_yes {A : Option Addr} {n c : Nat} {p k : Int} {bs : List Int} {w : World} (hb : Cells w A (bs.map (.int .u8))) (hl : bs.length = n) (hB : Bts bs) (hn : n ≤ 140737488355328) (hk : 1 ≤ k ∧ k ≤ 8) (h0 : 0 ≤ p) (h1 : p + k ≤ n) :
    Calls Try.prog 60 #[.slice A n c, .int .i64 p, .int .i64 k] w fun e w' => w = w' ∧ e = .returned (.int .u64 (beNum ((bs.drop p.toNat).take k.toNat))) := by
  refine view_number_of A n c p k w _ ?_
  unfold view_number_VC
  refine Br.no (by omega) (Br.no (by omega) ?_)
  refine LoopVC.of (fun s w1 => w = w1 ∧ 0 ≤ s.2 ∧ s.2 ≤ k ∧ s.1 = beNum ((bs.drop p.toNat).take s.2.toNat)) (fun s _ => (k - s.2).toNat) ?_ ?_
  · exact ⟨rfl, by omega, by omega, by simp [beNum]⟩
  · rintro ⟨v, i⟩ w1 ⟨rfl, hi0, hi1, hv⟩
    simp only at hi0 hi1 hv
    show view_number_L122 _ A n c p k v i w _
    unfold view_number_L122
    refine Br.dec (fun h3 => ?_) (fun h3 => ?_)
    · rw [w64 (n := p + i) (by omega) (by omega)]
      refine (look_yes hb hl (by omega) (by omega)).mono ?_
      rintro _ w2 ⟨rfl, rfl⟩
      have hlen : i.toNat < (bs.drop p.toNat).length := by rw [List.length_drop]; omega
      have e1 : IntKind.i64.wrap (i + 1) = i + 1 := w64 (by omega) (by omega)
      have e2 : (i + 1).toNat = i.toNat + 1 := by omega
      have e3 : (p + i).toNat = p.toNat + i.toNat := by omega
      have hx := hB.at (i := (p + i).toNat) (by omega)
      have hg : bs.getD (p + i).toNat 0 = bs[(p + i).toNat]'(by omega) := by simp [show (p + i).toNat < bs.length by omega]
      have hbd := beNum_bound (bs := (bs.drop p.toNat).take i.toNat) ((hB.drop _).take _)
      have hpw : (256 : Int) ^ ((bs.drop p.toNat).take i.toNat).length ≤ 72057594037927936 := pow256_lt (by rw [List.length_take]; omega)
      rw [e1]
      refine ⟨_, rfl, ⟨rfl, by show 0 ≤ i + 1; omega, by show i + 1 ≤ k; omega, ?_⟩, by show (k - (i + 1)).toNat < (k - i).toNat; omega⟩
      simp only [e2]
      rw [take_succ_getD _ _ hlen, beNum_snoc, getD_drop, ← e3, hg]
      rw [← hv] at hbd ⊢
      rw [wu64 (n := v * 256) (by omega) (by omega), wu64 (n := bs[(p + i).toNat]) (by omega) (by omega)]
      unfold bitv
      simp only
      rw [or_low (v * 256) _ 8 (by omega) hx.1 (by omega) (by omega) IntKind.u64.bits (by show _ < (2 : Int) ^ 64; omega)]
      exact wu64 (by omega) (by omega)
    · refine ⟨rfl, ?_⟩
      have : i = k := by omega
      subst this
      rw [hv]
theorem number_no {A : Option Addr} {n c : Nat} {p k : Int} {bs : List Int} {w : World} (hb : Cells w A (bs.map (.int .u8))) (hl : bs.length = n) (hn : n ≤ 140737488355328) (h : ¬ (0 ≤ p ∧ p + k ≤ n)) :
    Calls Try.prog 60 #[.slice A n c, .int .i64 p, .int .i64 k] w fun e w' => w = w' ∧ e = .panicked gapc := by
  refine view_number_of A n c p k w _ ?_
  unfold view_number_VC
  refine Br.dec (fun h1 => ⟨rfl, rfl⟩) (fun h1 => Br.dec (fun h2 => ⟨rfl, rfl⟩) (fun h2 => ?_))
  refine LoopVC.of (fun s w1 => w = w1 ∧ 0 ≤ s.2 ∧ p + s.2 ≤ n) (fun s _ => (k - s.2).toNat) ⟨rfl, by omega, by omega⟩ ?_
  rintro ⟨v, i⟩ w1 ⟨rfl, hi0, hi2⟩
  simp only at hi0 hi2
  show view_number_L122 _ A n c p k v i w _
  unfold view_number_L122
  refine Br.yes (by omega) ?_
  rw [w64 (n := p + i) (by omega) (by omega)]
  by_cases h4 : p + i < n
  · refine (look_yes hb hl (by omega) h4).mono ?_
    rintro _ w2 ⟨rfl, rfl⟩
    have e1 : IntKind.i64.wrap (i + 1) = i + 1 := w64 (by omega) (by omega)
    rw [e1]
    exact ⟨_, rfl, ⟨rfl, by show 0 ≤ i + 1; omega, by show p + (i + 1) ≤ n; omega⟩, by show (k - (i + 1)).toNat < (k - i).toNat; omega⟩
  · refine (look_no (by omega)).mono ?_
    rintro _ w2 ⟨rfl, rfl⟩
    exact ⟨rfl, rfl⟩

theorem part_yes {A : Option Addr} {n c : Nat} {p k : Int} {bs : List Value} {w : World} (hb : Cells w A bs) (_ : bs.length = n) (hc : n ≤ c) (hn : n ≤ 4611686018427387904) (h0 : 0 ≤ p) (hk : 0 ≤ k) (h1 : p + k ≤ n) :
    Calls Try.prog 63 #[.slice A n c, .int .i64 p, .int .i64 k] w fun e w' => w = w' ∧ ∃ A', e = .returned (.slice A' k.toNat k.toNat) ∧ Cells w A' ((bs.drop p.toNat).take k.toNat) ∧
      A' = if k = 0 then A else A.map (·.add p.toNat) := by
  refine view_part_of A n c p k w _ ?_
  unfold view_part_VC
  rw [w64 (n := (n : Int) - p) (by omega) (by omega), w64 (n := p + k) (by omega) (by omega)]
  refine Br.no (by omega) (Br.no (by omega) (Br.no (by omega) ?_))
  refine ⟨h0, by omega, by omega, by omega, rfl, _, ?_, ?_, rfl⟩
  · have e1 : (p + k).toNat - p.toNat = k.toNat := by omega
    rw [e1]
    congr 2
    by_cases hk0 : k = 0
    · rw [if_pos hk0, if_pos (by omega)]
    · rw [if_neg hk0, if_neg (by omega), Nat.mul_one]
  · exact hb.win
theorem part_no {A : Option Addr} {n c : Nat} {p k : Int} {w : World} (hn : n ≤ 140737488355328) (h : ¬ (0 ≤ p ∧ p ≤ n ∧ k ≤ n - p)) :
    Calls Try.prog 63 #[.slice A n c, .int .i64 p, .int .i64 k] w fun e w' => w = w' ∧ e = .panicked gapc := by
  refine view_part_of A n c p k w _ ?_
  unfold view_part_VC
  refine Br.dec (fun h1 => ⟨rfl, rfl⟩) (fun h1 => Br.dec (fun h2 => ⟨rfl, rfl⟩) (fun h2 => ?_))
  rw [w64 (n := (n : Int) - p) (by omega) (by omega)]
  refine Br.yes (by omega) ⟨rfl, rfl⟩
end Go.Proofs.Ytdchpilghgnnoaa
