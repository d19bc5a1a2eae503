/- Chapter 7 by value: what is written is read as it was (the datagram); what is read may be, and is written in as many bytes. -/
import Derived.Test.YthhgbpmihhljdaaGreatDoorBba
import Derived.Test.YthhgbpmihhljdaaGreatDoorBaw
import Derived.Test.YthhgbpmihhljdaaGreatDoorBat
namespace Go.Eng
open Go Go.RowKit
theorem upperS_isH {k : Int} (h : upperS k = true) : ¬ isH k ∧ k ≠ 44 := by
  unfold upperS at h
  have := of_decide_eq_true h
  unfold isH; omega
theorem wrF_of {b : List Int} (hB : Bts b) : ∀ (k p run : Nat) (l : List OP), b.length - p ≤ k → p ≤ b.length → optsS b p run = some l → ∃ c, wrF false (l.map (OP.d b)) = some c ∧ c.length = run + (b.length - p) := by
  have fl : ∀ (run : Nat) (r : List OptD) (c : List Int), wrF false r = some c → (∀ o, r[0]? = some o → o.kind ≠ 0) → wrF false (flushD run ++ r) = some (padS run ++ c) := by
    intro run r c hw h0
    unfold flushD
    split
    · rename_i e; subst e; rw [padS_zero]; simpa using hw
    · rename_i e
      have hw' : wrF true r = some c := by
        cases r with
        | nil => exact hw
        | cons o r =>
          have := h0 o rfl
          unfold wrF optBytes at hw ⊢
          rw [if_neg this] at hw ⊢
          exact hw
      have e1 : optBytes false ⟨0, List.replicate run 0⟩ = some (padS run) := by
        unfold optBytes
        rw [if_pos rfl, if_neg]
        · rw [List.length_replicate]
        · rintro (h | h | h)
          · have := congrArg List.length h; rw [List.length_replicate] at this; exact e this
          · cases h
          · exact h fun x hx => (List.mem_replicate.1 hx).2
      show wrF false (⟨0, List.replicate run 0⟩ :: r) = _
      unfold wrF
      rw [e1]
      simp only [decide_true, hw']
  intro k
  induction k with
  | zero =>
    intro p run l hk hp h
    rw [optsS_end (by omega)] at h
    injection h with h; subst h
    refine ⟨padS run, ?_, by rw [padS_len]; omega⟩
    have := fl run [] [] rfl (fun o h => by cases h)
    rw [flushS_d]
    simpa [flushD] using this
  | succ k ih =>
    intro p run l hk hp h
    rcases Nat.lt_or_ge p b.length with hlt | hge
    · have b0 := getD_byte hB p
      have b1 := getD_byte hB (p + 1)
      by_cases h0 : b.getD p 0 = 0
      · rw [optsS_zero hlt h0] at h
        obtain ⟨c, e1, e2⟩ := ih _ _ _ (by omega) (by omega) h
        exact ⟨c, e1, by omega⟩
      · rcases Nat.lt_or_ge b.length (p + 2 + (b.getD (p + 1) 0).toNat) with h2 | h2
        · rw [optsS_none hlt h0 h2] at h; cases h
        · by_cases h1 : b.getD p 0 = 1
          · rw [optsS_pad h1 h2] at h
            obtain ⟨c, e1, e2⟩ := ih _ _ _ (by omega) (by omega) h
            exact ⟨c, e1, by omega⟩
          · rw [optsS_opt h0 h1 h2] at h
            cases hr2 : optsS b (p + 2 + (b.getD (p + 1) 0).toNat) 0 with
            | none => rw [hr2] at h; cases h
            | some m =>
              rw [hr2] at h
              injection h with h; subst h
              obtain ⟨c, e1, e2⟩ := ih _ _ _ (by omega) (by omega) hr2
              have hpl : (bpart b (p + 2) (b.getD (p + 1) 0).toNat).length = (b.getD (p + 1) 0).toNat := bpart_len (by omega)
              have hod : OP.d b ⟨b.getD p 0, p + 2, (b.getD (p + 1) 0).toNat⟩ = ⟨b.getD p 0, bpart b (p + 2) (b.getD (p + 1) 0).toNat⟩ := by unfold OP.d; rw [if_neg h0]
              have hw : wrF false (OP.d b ⟨b.getD p 0, p + 2, (b.getD (p + 1) 0).toNat⟩ :: m.map (OP.d b)) = some ((b.getD p 0 :: ((bpart b (p + 2) (b.getD (p + 1) 0).toNat).length : Int) :: bpart b (p + 2) (b.getD (p + 1) 0).toNat) ++ c) := by
                rw [hod]
                unfold wrF optBytes
                simp only
                rw [if_neg h0, if_neg (by rw [hpl]; omega), decide_eq_false h0, e1]
              refine ⟨padS run ++ ((b.getD p 0 :: ((bpart b (p + 2) (b.getD (p + 1) 0).toNat).length : Int) :: bpart b (p + 2) (b.getD (p + 1) 0).toNat) ++ c), ?_, ?_⟩
              · rw [List.map_append, List.map_cons, flushS_d]
                exact fl run _ _ hw (fun o ho => by
                  rw [hod] at ho
                  simp only [List.getElem?_cons_zero, Option.some.injEq] at ho
                  subst ho
                  exact h0)
              · simp only [List.length_append, List.length_cons, padS_len, hpl]
                omega
    · rw [optsS_end hge] at h
      injection h with h; subst h
      refine ⟨padS run, ?_, by rw [padS_len]; omega⟩
      have := fl run [] [] rfl (fun o h => by cases h)
      rw [flushS_d]
      simpa [flushD] using this
theorem EP.body {b : List Int} (hB : Bts b) {x : EP} (h : x.inside b) : (bodyS (x.d b)).2 = 0 ∧ (bodyS (x.d b)).1.length = x.n := by
  obtain ⟨hk, hp, hn, h8, hin⟩ := h
  have hpl : (bpart b x.p x.n).length = x.n := bpart_len hp
  unfold bodyS EP.d
  simp only
  unfold inS at hin
  split
  · rename_i h43
    rw [if_pos h43] at hin
    injection hin with hin
    rw [← hin, if_neg]
    · exact ⟨rfl, hpl⟩
    · rintro (h | h)
      · exact absurd rfl h
      · rw [hpl] at h; omega
  · rename_i h43
    rw [if_neg h43] at hin
    rw [if_pos (by unfold isH at hk; omega), if_neg (by simp)]
    obtain ⟨c, e1, e2⟩ := wrF_of ((hB.drop x.p).take x.n) _ 0 0 _ (Nat.le_refl _) (Nat.zero_le _) hin
    have e2 : c.length = x.n := by rw [e2]; show 0 + ((bpart b x.p x.n).length - 0) = x.n; rw [hpl]; omega
    rw [putOptsS_wr]
    have e1 : wrF false (x.opts.map (OP.d (bpart b x.p x.n))) = some c := e1
    rw [e1]
    simp only
    rw [if_neg (by omega)]
    exact ⟨rfl, e2⟩
end Go.Eng
/- Chapter 7 by value: what is read may be, and is written in as many bytes; a chain that was put is read as it was; one hop. -/
namespace Go.Eng
open Go Go.RowKit
theorem putChainS_ok {l : List ExtD} {next : Int} (h : (putChainS l next).2 = 0) : (0 ≤ next ∧ next ≤ 255) ∧ (headersS l next false).2 = 0 ∧ upperS next = true ∧ (putChainS l next).1 = (headersS l next false).1 := by
  unfold putChainS at h ⊢
  split at h
  · exact absurd h (by decide)
  · rename_i h1
    split at h
    · rename_i h2; exact absurd h h2
    · rename_i h2
      split at h
      · rename_i h3
        rw [if_neg h1, if_neg h2, if_pos h3]
        exact ⟨by omega, by omega, h3, rfl⟩
      · exact absurd h (by decide)
theorem firstE_range {l : List ExtD} {next : Int} {top : Bool} (hn : 0 ≤ next ∧ next ≤ 255) (h : (headersS l next top).2 = 0) : 0 ≤ firstE next l ∧ firstE next l ≤ 255 := by
  cases l with
  | nil => exact hn
  | cons x l =>
    have := bodyS_isH ((headersS_ok h).2.1 0 x (by simp) rfl).2
    unfold isH at this
    show 0 ≤ x.kind ∧ x.kind ≤ 255
    omega
theorem chain_back {l : List ExtD} {next : Int} {D : List Int} (h : (putChainS l next).2 = 0) (hl : ((putChainS l next).1 ++ D).length ≤ 65535) : chained (firstE next l) ((putChainS l next).1 ++ D) = (l, next, D, 0) := by
  obtain ⟨hn, hh, hu, hb⟩ := putChainS_ok h
  obtain ⟨h8, hok, _⟩ := headersS_ok hh
  have hB := headersS_B hh
  rw [hb, hB] at hl ⊢
  obtain ⟨es, e1, e2⟩ := hdrB_read (b := hdrB next l ++ D) (top := false) (upperS_isH hu).1 hn l 0 0 D (by omega) (fun j x hj => by
    have hjl : j < l.length := (List.getElem?_eq_some_iff.1 hj).1
    have := hok j x hjl hj
    simpa using this) rfl (Nat.zero_le _)
  have hr := firstE_range (top := false) hn hh
  unfold chained chainS walkS
  rw [if_neg (by omega), if_neg (by omega), Bool.not_true, e1]
  simp only
  rw [if_neg (upperS_isH hu).2]
  simp only [e2, Nat.zero_add, List.drop_left]
end Go.Eng
/- Chapter 13 by value: how the pieces lie one behind the other. -/
namespace Go.Eng
open Go Go.RowKit
section
variable {a b mtu n : Nat}
end
end Go.Eng
/- Chapter 13 by value: what each piece of version 4 is worth. -/
namespace Go.Eng
open Go Go.RowKit
/-- Parts behind heads of a bytes (the first) and b bytes (the others), as long as can be. -/
def Fit (a b mtu n : Nat) : Nat → List (Nat × Nat) → Prop
  | p, [] => p = n
  | p, x :: l => x.1 = p ∧ p % 8 = 0 ∧ (0 < p → p < n) ∧ p + x.2 ≤ n ∧ x.2 ≤ room a b mtu p ∧ (l = [] → p + x.2 = n) ∧ (l ≠ [] → 0 < x.2 ∧ x.2 % 8 = 0 ∧ p + x.2 < n ∧ room a b mtu p < x.2 + 8) ∧ Fit a b mtu n (p + x.2) l
section
variable {a b mtu n : Nat}
theorem pieces_ne (_ha : a + 8 ≤ mtu) (_hb : b + 8 ≤ mtu) (f p : Nat) (h : n - p < f) : pieces a b mtu n f p ≠ [] := by
  cases f with
  | zero => omega
  | succ f => unfold pieces; split <;> simp
theorem parts_fit (ha : a + 8 ≤ mtu) (hb : b + 8 ≤ mtu) : ∀ f p, n - p < f → p ≤ n → p % 8 = 0 → (0 < p → p < n) → Fit a b mtu n p (pieces a b mtu n f p)
  | 0, _, h, _, _, _ => by omega
  | f + 1, p, h, hp, h8, h0 => by
    have := room_ge ha hb p
    unfold pieces
    split
    · exact ⟨rfl, h8, h0, by show p + (n - p) ≤ n; omega, by assumption, fun _ => by show p + (n - p) = n; omega, fun h => absurd rfl h, by show p + (n - p) = n; omega⟩
    · refine ⟨rfl, h8, h0, by show p + _ ≤ n; omega, by show room a b mtu p / 8 * 8 ≤ _; omega, fun h => ?_, fun _ => ⟨by show 0 < room a b mtu p / 8 * 8; omega, by show room a b mtu p / 8 * 8 % 8 = 0; omega, by show p + _ < n; omega, by show room a b mtu p < room a b mtu p / 8 * 8 + 8; omega⟩, parts_fit ha hb f _ (by omega) (by omega) (by omega) (by omega)⟩
      exact absurd h (pieces_ne ha hb f _ (by omega))
theorem Fit.mem : ∀ {l : List (Nat × Nat)} {p i : Nat} {x : Nat × Nat}, Fit a b mtu n p l → l[i]? = some x →
    x.1 % 8 = 0 ∧ (0 < x.1 → x.1 < n) ∧ x.1 + x.2 ≤ n ∧ x.2 ≤ room a b mtu x.1 ∧ (i + 1 = l.length → x.1 + x.2 = n) ∧ (i + 1 < l.length → 0 < x.2 ∧ x.2 % 8 = 0 ∧ x.1 + x.2 < n ∧ room a b mtu x.1 < x.2 + 8) ∧ p ≤ x.1 ∧ (0 < i → p < x.1)
  | [], _, _, _, _, h => by simp at h
  | y :: l, p, 0, x, hf, h => by
    simp at h; subst h
    obtain ⟨h1, h2, h3, h4, h5, h6, h7, _⟩ := hf
    subst h1
    exact ⟨h2, h3, h4, h5, fun hl => h6 (List.eq_nil_of_length_eq_zero (by rw [List.length_cons] at hl; omega)), fun hl => h7 (fun e => by subst e; simp at hl), Nat.le_refl _, fun h => by omega⟩
  | y :: l, p, i + 1, x, hf, h => by
    obtain ⟨h1, h2, h3, h4, h5, h6, h7, h8⟩ := hf
    have h : l[i]? = some x := by simpa using h
    obtain ⟨k1, k2, k3, k4, k5, k6, k7, k8⟩ := Fit.mem h8 h
    have hne : l ≠ [] := fun e => by subst e; simp at h
    have := h7 hne
    exact ⟨k1, k2, k3, k4, fun hl => k5 (by simpa using hl), fun hl => k6 (by simpa using hl), by omega, fun _ => by omega⟩
end
end Go.Eng
