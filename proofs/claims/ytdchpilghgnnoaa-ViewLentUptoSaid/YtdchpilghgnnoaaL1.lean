/- What Fields reads, Pack makes the bytes that it read. -/
import Derived.Test.YtdchpilghgnnoaaC5
namespace Go.Proofs.Ytdchpilghgnnoaa
open Go.Eng Go.RowKit

theorem Cells.part {w : World} {A : Option Addr} {vs : List Value} {n lo k c : Nat} (h : Cells w A vs) (hl : vs.length = n) (hk : lo + k ≤ n) (hc : n ≤ c) :
    Cells w (if c = lo then A else A.map (·.add (lo * 1))) ((vs.drop lo).take k) := by
  by_cases h0 : c = lo
  · have : k = 0 := by omega
    subst this
    simpa using Cells.nil w _
  · rw [if_neg h0]
    have := (h.drop lo (c := lo + 1 + vs.length) (by omega) 1 (.inl rfl)).take k
    rwa [if_neg (by omega)] at this

theorem oneWay_law {A W : Option Addr} {n c m d : Nat} {p : Int} {bs ws : List Int} {w : World} (hb : Cells w A (bs.map (.int .u8))) (hl : bs.length = n) (hB : Bts bs) (hc : n ≤ c) (hn : c ≤ 1048576)
    (hws : Cells w W (ws.map (.int .i64))) (hm : ws.length = m) :
    Calls Try.prog 7 #[.slice A n c, .int .i64 p, .slice W m d] w fun e w' => e = .returned (.bool true) ∧ Ext w w' := by
  refine weirlaw1_ViewOneWay_of A n c p W m d w _ ?_
  unfold weirlaw1_ViewOneWay_VC
  have hno : ∀ x : Int, x ≠ 0 → Calls Try.prog 28 #[.slice A n c, .int .i64 p, .slice W m d] w (fun e w' => Ext w w' ∧ e = .returned (.tuple #[.slice none 0 0, .int .i64 0, .int .i64 x])) →
      weirlaw1_ViewOneWay_VC A n c p W m d w (fun e w' => e = .returned (.bool true) ∧ Ext w w') := by
    intro x hx hcall
    unfold weirlaw1_ViewOneWay_VC
    refine hcall.mono ?_
    rintro _ w1 ⟨hE1, rfl⟩
    refine ⟨_, _, _, _, _, rfl, ?_⟩
    refine (num_spec x w1).mono ?_
    rintro _ w2 ⟨rfl, rfl⟩
    refine ⟨_, rfl, Br.yes hx ?_⟩
    refine (started_spec w1).mono ?_
    rintro _ w3 ⟨hE3, rfl⟩
    exact ⟨_, rfl, Br.t rfl (Br.yes rfl ⟨rfl, hE1.ext hE3⟩)⟩
  by_cases hok : widthsOk ws
  · by_cases hr : 0 ≤ p ∧ p + psum ws / 8 ≤ n
    · have hpb := psum_bound hok.2.1
      have h8 := hok.2.2
      refine (fields_yes hb hl hB hc (by omega) hws hm hok hr.1 hr.2).mono ?_
      rintro _ w1 ⟨hE1, A1, c1, rfl, hown⟩
      refine ⟨_, _, _, _, _, rfl, ?_⟩
      refine (num_spec 0 w1).mono ?_
      rintro _ w2 ⟨rfl, rfl⟩
      refine ⟨_, rfl, Br.no (by omega) ?_⟩
      generalize hbs : (bs.drop p.toNat).take (psum ws / 8).toNat = ds at hown
      have hds : ds.length = (psum ws / 8).toNat := by subst hbs; rw [List.length_take, List.length_drop]; omega
      have hdB : Bts ds := by subst hbs; exact (hB.drop _).take _
      have hfl := fieldsV_length (bitAt ds) ws 0
      have hval : valuesOk ws (fieldsV (bitAt ds) 0 ws) := ⟨hfl, fieldsV_ok (bitAt_01 ds) ws 0⟩
      refine (pack_ok (hws.ext hE1) hm (own_cells hown) (by omega) hok rfl).mono ?_
      rintro _ w4 ⟨hE4, ⟨_, A2, es, hp, rfl, hown2⟩ | ⟨hno, -⟩⟩
      · have he : es = ds := hp.unique hok.2.1 h8 ⟨by omega, hdB, rfl⟩
        subst he
        refine ⟨_, _, _, _, rfl, ?_⟩
        refine (started_spec w4).mono ?_
        rintro _ w5 ⟨hE5, rfl⟩
        refine ⟨_, rfl, Br.t rfl (Br.yes hr.1 (Br.yes (by omega) (Br.yes (by omega) ?_)))⟩
        refine (num_spec 0 w5).mono ?_
        rintro _ w6 ⟨rfl, rfl⟩
        refine ⟨_, rfl, Br.yes rfl ⟨by omega, by omega, by omega, ?_⟩⟩
        have hk : (p + psum ws / 8).toNat - p.toNat = (psum ws / 8).toNat := by omega
        rw [hk]
        have hwin := Cells.part (hb.ext ((hE1.ext hE4).ext hE5)) (by simpa using hl) (lo := p.toNat) (k := (psum ws / 8).toNat) (by omega) hc
        rw [← List.map_drop, ← List.map_take, hbs] at hwin
        refine (same_spec (own_cells (own_ext hown2 hE5)) hwin rfl hds hdB hdB).mono ?_
        rintro _ w7 ⟨rfl, rfl⟩
        exact ⟨_, rfl, by rw [decide_eq_true rfl], (hE1.ext hE4).ext hE5⟩
      · exact (hno hval).elim
    · exact hno 10 (by omega) (fields_no10 (by omega) hws hm hok hr)
  · exact hno 11 (by omega) (fields_no11 hws hm hok)
end Go.Proofs.Ytdchpilghgnnoaa
