/- Chapter 7 by value: what is written is read as it was (the datagram); what is read may be, and is written in as many bytes. -/
import Derived.Test.YthhgbpmihhljdaaDoorBal
namespace Go.Eng
open Go Go.RowKit
theorem wrF_of {b : List Int} (hB : Bts b) : ∀ (k p run : Nat) (l : List OP), b.length - p ≤ k → p ≤ b.length → optsS b p run = some l → ∃ c, wrF false (l.map (OP.d b)) = some c ∧ c.length = run + (b.length - p) := by
  have fl : ∀ (run : Nat) (r : List OptD) (c : List Int), wrF false r = some c → (∀ o, r[0]? = some o → o.kind ≠ 0) → wrF false (flushD run ++ r) = some (padS run ++ c) := by
    intro run r c hw h0
    unfold flushD
    split
    · rename_i e; subst e; rw [padS_zero]; simpa using hw
    · rename_i e
      have hw' : wrF true r = some c := by
        cases r with
        | nil => exact hw
        | cons o r =>
          have := h0 o rfl
          unfold wrF optBytes at hw ⊢
          rw [if_neg this] at hw ⊢
          exact hw
      have e1 : optBytes false ⟨0, List.replicate run 0⟩ = some (padS run) := by
        unfold optBytes
        rw [if_pos rfl, if_neg]
        · rw [List.length_replicate]
        · rintro (h | h | h)
          · have := congrArg List.length h; rw [List.length_replicate] at this; exact e this
          · cases h
          · exact h fun x hx => (List.mem_replicate.1 hx).2
      show wrF false (⟨0, List.replicate run 0⟩ :: r) = _
      unfold wrF
      rw [e1]
      simp only [decide_true, hw']
  intro k
  induction k with
  | zero =>
    intro p run l hk hp h
    rw [optsS_end (by omega)] at h
    injection h with h; subst h
    refine ⟨padS run, ?_, by rw [padS_len]; omega⟩
    have := fl run [] [] rfl (fun o h => by cases h)
    rw [flushS_d]
    simpa [flushD] using this
  | succ k ih =>
    intro p run l hk hp h
    rcases Nat.lt_or_ge p b.length with hlt | hge
    · have b0 := getD_byte hB p
      have b1 := getD_byte hB (p + 1)
      by_cases h0 : b.getD p 0 = 0
      · rw [optsS_zero hlt h0] at h
        obtain ⟨c, e1, e2⟩ := ih _ _ _ (by omega) (by omega) h
        exact ⟨c, e1, by omega⟩
      · rcases Nat.lt_or_ge b.length (p + 2 + (b.getD (p + 1) 0).toNat) with h2 | h2
        · rw [optsS_none hlt h0 h2] at h; cases h
        · by_cases h1 : b.getD p 0 = 1
          · rw [optsS_pad h1 h2] at h
            obtain ⟨c, e1, e2⟩ := ih _ _ _ (by omega) (by omega) h
            exact ⟨c, e1, by omega⟩
          · rw [optsS_opt h0 h1 h2] at h
            cases hr2 : optsS b (p + 2 + (b.getD (p + 1) 0).toNat) 0 with
            | none => rw [hr2] at h; cases h
            | some m =>
              rw [hr2] at h
              injection h with h; subst h
              obtain ⟨c, e1, e2⟩ := ih _ _ _ (by omega) (by omega) hr2
              have hpl : (bpart b (p + 2) (b.getD (p + 1) 0).toNat).length = (b.getD (p + 1) 0).toNat := bpart_len (by omega)
              have hod : OP.d b ⟨b.getD p 0, p + 2, (b.getD (p + 1) 0).toNat⟩ = ⟨b.getD p 0, bpart b (p + 2) (b.getD (p + 1) 0).toNat⟩ := by unfold OP.d; rw [if_neg h0]
              have hw : wrF false (OP.d b ⟨b.getD p 0, p + 2, (b.getD (p + 1) 0).toNat⟩ :: m.map (OP.d b)) = some ((b.getD p 0 :: ((bpart b (p + 2) (b.getD (p + 1) 0).toNat).length : Int) :: bpart b (p + 2) (b.getD (p + 1) 0).toNat) ++ c) := by
                rw [hod]
                unfold wrF optBytes
                simp only
                rw [if_neg h0, if_neg (by rw [hpl]; omega), decide_eq_false h0, e1]
              refine ⟨padS run ++ ((b.getD p 0 :: ((bpart b (p + 2) (b.getD (p + 1) 0).toNat).length : Int) :: bpart b (p + 2) (b.getD (p + 1) 0).toNat) ++ c), ?_, ?_⟩
              · rw [List.map_append, List.map_cons, flushS_d]
                exact fl run _ _ hw (fun o ho => by
                  rw [hod] at ho
                  simp only [List.getElem?_cons_zero, Option.some.injEq] at ho
                  subst ho
                  exact h0)
              · simp only [List.length_append, List.length_cons, padS_len, hpl]
                omega
    · rw [optsS_end hge] at h
      injection h with h; subst h
      refine ⟨padS run, ?_, by rw [padS_len]; omega⟩
      have := fl run [] [] rfl (fun o h => by cases h)
      rw [flushS_d]
      simpa [flushD] using this
theorem EP.body {b : List Int} (hB : Bts b) {x : EP} (h : x.inside b) : (bodyS (x.d b)).2 = 0 ∧ (bodyS (x.d b)).1.length = x.n := by
  obtain ⟨hk, hp, hn, h8, hin⟩ := h
  have hpl : (bpart b x.p x.n).length = x.n := bpart_len hp
  unfold bodyS EP.d
  simp only
  unfold inS at hin
  split
  · rename_i h43
    rw [if_pos h43] at hin
    injection hin with hin
    rw [← hin, if_neg]
    · exact ⟨rfl, hpl⟩
    · rintro (h | h)
      · exact absurd rfl h
      · rw [hpl] at h; omega
  · rename_i h43
    rw [if_neg h43] at hin
    rw [if_pos (by unfold isH at hk; omega), if_neg (by simp)]
    obtain ⟨c, e1, e2⟩ := wrF_of ((hB.drop x.p).take x.n) _ 0 0 _ (Nat.le_refl _) (Nat.zero_le _) hin
    have e2 : c.length = x.n := by rw [e2]; show 0 + ((bpart b x.p x.n).length - 0) = x.n; rw [hpl]; omega
    rw [putOptsS_wr]
    have e1 : wrF false (x.opts.map (OP.d (bpart b x.p x.n))) = some c := e1
    rw [e1]
    simp only
    rw [if_neg (by omega)]
    exact ⟨rfl, e2⟩
end Go.Eng
